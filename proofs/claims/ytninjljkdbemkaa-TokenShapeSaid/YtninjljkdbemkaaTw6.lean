/- The package token: attribute. -/
import Derived.Test.YtninjljkdbemkaaTw5
import Derived.Test.YtninjljkdbemkaaRw5
namespace Go.Proofs.Ytninjljkdbemkaa
open Go.RowKit

theorem atL_1 {l : List UInt8} {i j : Nat} (hi : i = spanL anB l) (hj : j = i + spanL blk (l.drop i)) (h : l.length ≤ j) : atL l = ((lowL (l.take i), []), j) := by
  subst hi; subst hj
  unfold atL
  simp only []
  rw [List.drop_of_length_le h]
theorem atL_2 {l : List UInt8} {i j : Nat} (hi : i = spanL anB l) (hj : j = i + spanL blk (l.drop i)) (h : j < l.length) (hc : l[j].toNat ≠ 61) : atL l = ((lowL (l.take i), []), j) := by
  subst hi; subst hj
  unfold atL
  simp only []
  rw [List.drop_eq_getElem_cons h]
  simp only [ne_eq, hc, not_false_eq_true, if_true]
theorem atL_3 {l : List UInt8} {i j k : Nat} (hi : i = spanL anB l) (hj : j = i + spanL blk (l.drop i)) (hk : k = j + 1 + spanL blk (l.drop (j + 1))) (h : j < l.length) (hc : l[j].toNat = 61) (h2 : l.length ≤ k) : atL l = ((lowL (l.take i), []), k) := by
  subst hi; subst hj; subst hk
  unfold atL
  simp only []
  rw [List.drop_eq_getElem_cons h]
  simp only [ne_eq, hc, not_true_eq_false, if_false]
  rw [List.drop_of_length_le h2]
theorem atL_4 {l : List UInt8} {i j k m : Nat} {q : UInt8} (hi : i = spanL anB l) (hj : j = i + spanL blk (l.drop i)) (hk : k = j + 1 + spanL blk (l.drop (j + 1))) (h : j < l.length) (hc : l[j].toNat = 61) (h2 : k < l.length)
    (hq : l[k] = q) (hqq : q.toNat = 34 ∨ q.toNat = 39) (hm : m = spanL (noq q) (l.drop (k + 1))) :
    atL l = if k + 1 + m = l.length then ((lowL (l.take i), []), l.length) else ((lowL (l.take i), dec ((l.drop (k + 1)).take m)), k + 1 + m + 1) := by
  subst hi; subst hj; subst hk; subst hm; subst hq
  unfold atL
  simp only []
  rw [List.drop_eq_getElem_cons h]
  simp only [ne_eq, hc, not_true_eq_false, if_false]
  rw [List.drop_eq_getElem_cons h2]
  simp only [hqq, if_true]
  rfl
theorem atL_5 {l : List UInt8} {i j k m : Nat} {q : UInt8} (hi : i = spanL anB l) (hj : j = i + spanL blk (l.drop i)) (hk : k = j + 1 + spanL blk (l.drop (j + 1))) (h : j < l.length) (hc : l[j].toNat = 61) (h2 : k < l.length)
    (hq : l[k] = q) (hqq : ¬ (q.toNat = 34 ∨ q.toNat = 39)) (hm : m = spanL avB (l.drop k)) :
    atL l = ((lowL (l.take i), dec ((l.drop k).take m)), k + m) := by
  subst hi; subst hj; subst hk; subst hm; subst hq
  unfold atL
  simp only []
  rw [List.drop_eq_getElem_cons h]
  simp only [ne_eq, hc, not_true_eq_false, if_false]
  rw [List.drop_eq_getElem_cons h2]
  simp only [hqq, if_false]

/-- the call's two attributes: what goes out, in the first block, and what is built, in block g -/
structure AtSt (w W : World) (g : Nat) (nm : ByteArray) : Prop where
  out : W.heap[w.heap.size]? = some (.cells #[.string ⟨#[]⟩, .string ⟨#[]⟩] 40 (0, 0))
  own : W.heap[g]? = some (.cells #[.string nm, .string ⟨#[]⟩] 40 (0, 0))
  far : w.heap.size < g
  bel : Below w.heap.size w W
theorem AtSt.step {w W W' : World} {g : Nat} {nm : ByteArray} (h : AtSt w W g nm) (b : Below W.heap.size W W') : AtSt w W' g nm where
  out := (b.block _ (Array.getElem?_eq_some_iff.1 h.out).1).trans h.out
  own := (b.block _ (Array.getElem?_eq_some_iff.1 h.own).1).trans h.own
  far := h.far
  bel := bt h.bel b
theorem AtSt.cells {w W : World} {g : Nat} {nm : ByteArray} (h : AtSt w W g nm) : (W.cell? ⟨w.heap.size, 0, none⟩ = some (.string ⟨#[]⟩) ∧ W.cell? ⟨w.heap.size, 1, none⟩ = some (.string ⟨#[]⟩) ∧ W.frozen? ⟨w.heap.size, 0, none⟩ = false ∧ W.frozen? ⟨w.heap.size, 1, none⟩ = false) ∧
    (W.cell? ⟨g, 0, none⟩ = some (.string nm) ∧ W.cell? ⟨g, 1, none⟩ = some (.string ⟨#[]⟩) ∧ W.frozen? ⟨g, 1, none⟩ = false) ∧ w.heap.size ≠ g := by
  have hc := fun j => Lib.cell_of_heap h.out j
  have hd := fun j => Lib.cell_of_heap h.own j
  have c0 := hc 0
  have c1 := hc 1
  have d0 := hd 0
  have d1 := hd 1
  simp only [List.getElem?_toArray, List.getElem?_cons_zero, List.getElem?_cons_succ] at c0 c1 d0 d1
  have := h.far
  exact ⟨⟨c0, c1, Lib.frozen_of_heap h.out 0, Lib.frozen_of_heap h.out 1⟩, ⟨d0, d1, Lib.frozen_of_heap h.own 1⟩, by omega⟩
theorem atr_stored {w : World} {g : Nat} {a b : Value} {T : TypeId} (h : w.heap[g]? = some (.cells #[a, b] T (0, 0))) (v0 v1 : Value) :
    ((w.setCell ⟨g, 0, none⟩ v0).setCell ⟨g, 1, none⟩ v1).heap[g]? = some (.cells #[v0, v1] T (0, 0)) := by
  have h0 := heap_setCell_same w g 0 _ _ v0 h
  have h1 := heap_setCell_same _ g 1 _ _ v1 h0
  rw [h1]
  simp
theorem atr_below {w w0 : World} {g B : Nat} (h : Below B w0 w) (hg : B ≤ g) (v0 v1 : Value) : Below B w0 ((w.setCell ⟨g, 0, none⟩ v0).setCell ⟨g, 1, none⟩ v1) :=
  (h.setCell (p := ⟨g, 0, none⟩) hg v0).setCell (p := ⟨g, 1, none⟩) hg v1
/-- the result in a cell block -/
theorem ret_atr {f : Func} {p u : Tmp} (h : f.results = #[.cell p 40, .tmp u]) {a : Act} {w : World} {g : Nat} {v0 v1 x : Value} {R : Ending → World → Prop} (hp : a.tmps.getD p undef = .pointer (some ⟨g, 0, none⟩)) (hx : a.tmps.getD u undef = x) (hd : a.defers = [])
    (hg : w.heap[g]? = some (.cells #[v0, v1] 40 (0, 0))) (hR : R (.returned (.tuple #[.agg #[v0, v1], x])) w) : bodyPost Try.prog f R .ret a w := by
  have hc := fun j => Lib.cell_of_heap hg j
  have c0 := hc 0
  have c1 := hc 1
  simp only [List.getElem?_toArray, List.getElem?_cons_zero, List.getElem?_cons_succ] at c0 c1
  refine bodyPost_ret (v := .tuple #[.agg #[v0, v1], x]) ?_ hd hR
  rw [results_cell_tmp h, hp, hx]
  go_simp
/-- an attribute's value -/
def atv (a : Atr) : Value := .agg #[.string ⟨a.1.toArray⟩, .string ⟨a.2.toArray⟩]

set_option maxHeartbeats 4000000 in
set_option maxRecDepth 100000 in
/-- token.attribute -/
theorem attribute_tok {w : World} {s : ByteArray} {l : List UInt8} (hs : IsStr s l) (hl : l.length ≤ 1000000) :
    Calls Try.prog 59 #[.string s] w fun e w' => e = .returned (.tuple #[atv (atL l).1, .int .i64 (atL l).2]) ∧ Below w.heap.size w w' := by
  have hss := hs.size
  have hsb : s.size ≤ 1000000 := by omega
  have HS := Lib.hid hs
  have HSS := Lib.hid hss
  clear hs hss
  obtain ⟨i, hi⟩ : ∃ i, i = spanL anB l := ⟨_, rfl⟩
  have hil : i ≤ s.size := by rw [HSS.out, hi]; exact spanL_le _ _
  go_enter Try.func59, Try.ntmps59
  go_wp2_with fail
  refine (span_any takenAn HS.out hl (fun _ _ => trivial)).mono ?_
  rintro e W1 ⟨rfl, b1⟩
  rw [World.size_alloc] at b1
  rw [← hi]
  have h1 := (b1.block w.heap.size (by omega)).trans (heap_alloc_new w _)
  have B1 : Below w.heap.size w W1 := ((Below.refl w.heap.size w).alloc (Nat.le_refl _) _).trans (b1.mono (by omega))
  have s1 := b1.size
  rw [World.size_alloc] at s1
  clear b1
  have HI := Lib.hid hi
  clear hi
  have hx := s_take HS.out i
  have hxl : (l.take i).length ≤ 1000000 := by rw [List.length_take]; omega
  generalize hxe : s.extract 0 i = x at *
  go_wp2_with fail
  refine (Fold_any hx hxl).mono ?_
  rintro e W2 ⟨y, rfl, hy, b2⟩
  have st2 : AtSt w (W2.alloc (.cells #[.string y, .string ⟨#[]⟩] 40)) W2.heap.size y :=
    ⟨(Below.heap_alloc _ _ _ (by have := b2.size; omega)).trans ((b2.block _ (by omega)).trans h1), heap_alloc_new _ _, by have := b2.size; omega, (bt B1 b2).alloc (by have := (bt B1 b2).size; omega) _⟩
  have HY := Lib.hid hy
  clear hx hxl hxe b2 h1 B1 s1 hy
  have hd := s_drop HS.out i
  have hdl : (l.drop i).length ≤ 1000000 := by rw [List.length_drop]; omega
  obtain ⟨j, hj⟩ : ∃ j, j = i + spanL blk (l.drop i) := ⟨_, rfl⟩
  have hjl : j ≤ s.size := by
    have := spanL_le blk (l.drop i)
    rw [List.length_drop] at this
    have := HSS.out
    omega
  generalize hde : s.extract i s.size = d at *
  go_wp2_with fail
  refine (span_any takenBlank hd hdl (fun _ _ => trivial)).mono ?_
  rintro e W3 ⟨rfl, b3⟩
  have st3 := st2.step b3
  have hji : (i : Int) + (spanL blk (l.drop i) : Nat) = (j : Nat) := by omega
  have HJ := Lib.hid hj
  clear st2 b3 hd hdl hde hj
  generalize W2.heap.size = gA at *
  obtain ⟨⟨r0, r1, rf0, rf1⟩, ⟨c0, c1, f1⟩, hne⟩ := st3.cells
  by_cases hjs : j < s.size
  · have hjl2 : j < l.length := by rw [← HSS.out]; exact hjs
    have e1 := s_byte HS.out j hjs hjl2
    by_cases hc : l[j].toNat = 61
    · have q1 : (((s[j]).toNat : Int) != 61) = false := by rw [e1, hc]; rfl
      have HC := Lib.hid hc
      obtain ⟨k, hk⟩ : ∃ k, k = j + 1 + spanL blk (l.drop (j + 1)) := ⟨_, rfl⟩
      have hks : k ≤ s.size := by
        have := spanL_le blk (l.drop (j + 1))
        rw [List.length_drop] at this
        have := HSS.out
        omega
      have hd := s_drop HS.out (j + 1)
      have hdl : (l.drop (j + 1)).length ≤ 1000000 := by rw [List.length_drop]; omega
      have hjk : (j : Int) + 1 + (spanL blk (l.drop (j + 1)) : Nat) = (k : Nat) := by omega
      have HK := Lib.hid hk
      generalize hde : s.extract (j + 1) s.size = d2 at *
      generalize hcc : s[j] = c at *
      clear e1 hc hk
      go_wp2_with fail
      refine (span_any takenBlank hd hdl (fun _ _ => trivial)).mono ?_
      rintro e W4 ⟨rfl, b4⟩
      have st4 := st3.step b4
      obtain ⟨⟨r0, r1, rf0, rf1⟩, ⟨c0, c1, f1⟩, hne⟩ := st4.cells
      clear b4 st3 hd hdl hde q1 hcc hji
      by_cases hkl : k < s.size
      · have hkl2 : k < l.length := by rw [← HSS.out]; exact hkl
        have e2 := s_byte HS.out k hkl hkl2
        obtain ⟨q, hq⟩ : ∃ q, q = l[k] := ⟨_, rfl⟩
        rw [← hq] at e2
        have hw : RowKit.wrap32 (q.toNat : Int) = q.toNat := IntWalk.wrap32_in _ (by have := q.toNat_lt; omega)
        have HQ := Lib.hid hq.symm
        clear hq
        generalize hcc : s[k] = c at *
        subst e2
        by_cases hqq : c.toNat = 34 ∨ c.toNat = 39
        · have hq128 : c.toNat < 128 := by omega
          obtain ⟨m, hm⟩ : ∃ m, m = spanL (noq c) (l.drop (k + 1)) := ⟨_, rfl⟩
          have hms : k + 1 + m ≤ s.size := by
            have := spanL_le (noq c) (l.drop (k + 1))
            rw [List.length_drop] at this
            have := HSS.out
            omega
          have hd := s_drop HS.out (k + 1)
          have hdl : (l.drop (k + 1)).length ≤ 1000000 := by rw [List.length_drop]; omega
          have HR := Lib.hid (atL_4 HI.out HJ.out HK.out hjl2 HC.out hkl2 HQ.out hqq hm)
          have HM := Lib.hid hm
          generalize hde : s.extract (k + 1) s.size = d3 at *
          have hq3 := hqq
          rcases hq3 with hq3 | hq3
          · have hv : (c.toNat : Int) = 34 := by omega
            have b5 := (Below.refl W4.heap.size W4).alloc (Nat.le_refl _) (.cells #[.int .i32 34] 21)
            have st5 := st4.step b5
            have h5 := heap_alloc_new W4 (.cells #[.int .i32 34] 21)
            have HTQ := takenQ W4.heap.size c hq128
            rw [hv] at HTQ
            have hI : ∀ w', Below (W4.alloc (.cells #[.int .i32 34] 21)).heap.size (W4.alloc (.cells #[.int .i32 34] 21)) w' → w'.cell? ⟨W4.heap.size, 0, none⟩ = some (.int .i32 34) := fun w' hb =>
              (hb.cell (p := ⟨W4.heap.size, 0, none⟩) (by simp)).trans (by rw [Lib.cell_of_heap h5 0]; rfl)
            clear hm hqq st4 b5 h5 hw
            have HTQ := Lib.hid HTQ
            go_wp2_with fail
            refine (span_any HTQ.out hd hdl hI).mono ?_
            rintro e W6 ⟨rfl, b6⟩
            have st6 := st5.step b6
            obtain ⟨⟨r0, r1, rf0, rf1⟩, ⟨c0, c1, f1⟩, hne⟩ := st6.cells
            have hkm : (k : Int) + 1 + (spanL (noq c) (l.drop (k + 1)) : Nat) = ((k + 1 + m : Nat) : Int) := by have := HM.out; omega
            have HKM := Lib.hid hkm
            clear hd hdl hde hI b6 st5 hkm
            rw [← HM.out]
            by_cases hend : k + 1 + m = s.size
            · have HR2 := Lib.hid (show atL l = ((lowL (l.take i), []), l.length) by rw [HR.out, if_pos (by have := HSS.out; omega)])
              have HV := Lib.hid (show atv (atL l).1 = .agg #[.string y, .string ⟨#[]⟩] by rw [HR2.out, HY.out.to]; rfl)
              have HN := Lib.hid (show ((atL l).2 : Int) = s.size by rw [HR2.out, HSS.out])
              have qe : ((k : Int) + 1 + (m : Int) == (s.size : Int)) = true := by rw [beq_iff_eq]; omega
              clear hend
              go_wp2
              exact ret_atr rfl rfl rfl rfl (atr_stored st6.out _ _) ⟨by rw [HV.out, HN.out]; rfl, atr_below st6.bel (Nat.le_refl _) _ _⟩
            · have HR2 := Lib.hid (show atL l = ((lowL (l.take i), dec ((l.drop (k + 1)).take m)), k + 1 + m + 1) by rw [HR.out, if_neg (by have := HSS.out; omega)])
              have qe : ((k : Int) + 1 + (m : Int) == (s.size : Int)) = false := by rw [beq_eq_false_iff_ne]; omega
              have hx := s_part HS.out (k + 1) (k + 1 + m)
              rw [show k + 1 + m - (k + 1) = m by omega] at hx
              have hxl : ((l.drop (k + 1)).take m).length ≤ 1000000 := by rw [List.length_take]; omega
              generalize hxe : s.extract (k + 1) (k + 1 + m) = x2 at *
              clear hend
              go_wp2_with fail
              refine (Decode_any hx hxl).mono ?_
              rintro e W7 ⟨z, rfl, hz, b7⟩
              have st7 := st6.step b7
              obtain ⟨⟨r0, r1, rf0, rf1⟩, ⟨c0, c1, f1⟩, hne⟩ := st7.cells
              have HV := Lib.hid (show atv (atL l).1 = .agg #[.string y, .string z] by rw [HR2.out, HY.out.to, hz.to]; rfl)
              have HN := Lib.hid (show ((atL l).2 : Int) = k + 1 + m + 1 by rw [HR2.out]; simp)
              go_wp2
              exact ret_atr rfl rfl rfl rfl (atr_stored ((Below.heap_setCell _ _ _ _ hne).trans st7.out) _ _) ⟨by rw [HV.out, HN.out]; rfl, atr_below (st7.bel.setCell (p := ⟨gA, 1, none⟩) (by have := st7.far; simp only []; omega) _) (Nat.le_refl _) _ _⟩
          · have hv : (c.toNat : Int) = 39 := by omega
            have b5 := (Below.refl W4.heap.size W4).alloc (Nat.le_refl _) (.cells #[.int .i32 39] 21)
            have st5 := st4.step b5
            have h5 := heap_alloc_new W4 (.cells #[.int .i32 39] 21)
            have HTQ := takenQ W4.heap.size c hq128
            rw [hv] at HTQ
            have hI : ∀ w', Below (W4.alloc (.cells #[.int .i32 39] 21)).heap.size (W4.alloc (.cells #[.int .i32 39] 21)) w' → w'.cell? ⟨W4.heap.size, 0, none⟩ = some (.int .i32 39) := fun w' hb =>
              (hb.cell (p := ⟨W4.heap.size, 0, none⟩) (by simp)).trans (by rw [Lib.cell_of_heap h5 0]; rfl)
            clear hm hqq st4 b5 h5 hw
            have HTQ := Lib.hid HTQ
            go_wp2_with fail
            refine (span_any HTQ.out hd hdl hI).mono ?_
            rintro e W6 ⟨rfl, b6⟩
            have st6 := st5.step b6
            obtain ⟨⟨r0, r1, rf0, rf1⟩, ⟨c0, c1, f1⟩, hne⟩ := st6.cells
            have hkm : (k : Int) + 1 + (spanL (noq c) (l.drop (k + 1)) : Nat) = ((k + 1 + m : Nat) : Int) := by have := HM.out; omega
            have HKM := Lib.hid hkm
            clear hd hdl hde hI b6 st5 hkm
            rw [← HM.out]
            by_cases hend : k + 1 + m = s.size
            · have HR2 := Lib.hid (show atL l = ((lowL (l.take i), []), l.length) by rw [HR.out, if_pos (by have := HSS.out; omega)])
              have HV := Lib.hid (show atv (atL l).1 = .agg #[.string y, .string ⟨#[]⟩] by rw [HR2.out, HY.out.to]; rfl)
              have HN := Lib.hid (show ((atL l).2 : Int) = s.size by rw [HR2.out, HSS.out])
              have qe : ((k : Int) + 1 + (m : Int) == (s.size : Int)) = true := by rw [beq_iff_eq]; omega
              clear hend
              go_wp2
              exact ret_atr rfl rfl rfl rfl (atr_stored st6.out _ _) ⟨by rw [HV.out, HN.out]; rfl, atr_below st6.bel (Nat.le_refl _) _ _⟩
            · have HR2 := Lib.hid (show atL l = ((lowL (l.take i), dec ((l.drop (k + 1)).take m)), k + 1 + m + 1) by rw [HR.out, if_neg (by have := HSS.out; omega)])
              have qe : ((k : Int) + 1 + (m : Int) == (s.size : Int)) = false := by rw [beq_eq_false_iff_ne]; omega
              have hx := s_part HS.out (k + 1) (k + 1 + m)
              rw [show k + 1 + m - (k + 1) = m by omega] at hx
              have hxl : ((l.drop (k + 1)).take m).length ≤ 1000000 := by rw [List.length_take]; omega
              generalize hxe : s.extract (k + 1) (k + 1 + m) = x2 at *
              clear hend
              go_wp2_with fail
              refine (Decode_any hx hxl).mono ?_
              rintro e W7 ⟨z, rfl, hz, b7⟩
              have st7 := st6.step b7
              obtain ⟨⟨r0, r1, rf0, rf1⟩, ⟨c0, c1, f1⟩, hne⟩ := st7.cells
              have HV := Lib.hid (show atv (atL l).1 = .agg #[.string y, .string z] by rw [HR2.out, HY.out.to, hz.to]; rfl)
              have HN := Lib.hid (show ((atL l).2 : Int) = k + 1 + m + 1 by rw [HR2.out]; simp)
              go_wp2
              exact ret_atr rfl rfl rfl rfl (atr_stored ((Below.heap_setCell _ _ _ _ hne).trans st7.out) _ _) ⟨by rw [HV.out, HN.out]; rfl, atr_below (st7.bel.setCell (p := ⟨gA, 1, none⟩) (by have := st7.far; simp only []; omega) _) (Nat.le_refl _) _ _⟩
        · obtain ⟨m, hm⟩ : ∃ m, m = spanL avB (l.drop k) := ⟨_, rfl⟩
          have hms : k + m ≤ s.size := by
            have := spanL_le avB (l.drop k)
            rw [List.length_drop] at this
            have := HSS.out
            omega
          have hd := s_drop HS.out k
          have hdl : (l.drop k).length ≤ 1000000 := by rw [List.length_drop]; omega
          have HR2 := Lib.hid (atL_5 HI.out HJ.out HK.out hjl2 HC.out hkl2 HQ.out hqq hm)
          have HM := Lib.hid hm
          generalize hde : s.extract k s.size = d3 at *
          have q1 : ((c.toNat : Int) == 34) = false := by rw [beq_eq_false_iff_ne]; omega
          have q2 : ((c.toNat : Int) == 39) = false := by rw [beq_eq_false_iff_ne]; omega
          have b5 := (Below.refl W4.heap.size W4).alloc (Nat.le_refl _) (.cells #[.int .i32 c.toNat] 21)
          have st5 := st4.step b5
          have h5 := heap_alloc_new W4 (.cells #[.int .i32 c.toNat] 21)
          have hI0 : (W4.alloc (.cells #[.int .i32 c.toNat] 21)).cell? ⟨W4.heap.size, 0, none⟩ = some (.int .i32 c.toNat) := by rw [Lib.cell_of_heap h5 0]; rfl
          clear hm hqq st4 b5 h5
          go_wp2_with fail
          refine (span_any takenAv hd hdl (fun _ _ => trivial)).mono ?_
          rintro e W6 ⟨rfl, b6⟩
          have st6 := st5.step b6
          obtain ⟨⟨r0, r1, rf0, rf1⟩, ⟨c0, c1, f1⟩, hne⟩ := st6.cells
          clear hd hdl hde b6 st5 hI0
          rw [← HM.out]
          have hx := s_part HS.out k (k + m)
          rw [show k + m - k = m by omega] at hx
          have hxl : ((l.drop k).take m).length ≤ 1000000 := by rw [List.length_take]; omega
          generalize hxe : s.extract k (k + m) = x2 at *
          go_wp2_with fail
          refine (Decode_any hx hxl).mono ?_
          rintro e W7 ⟨z, rfl, hz, b7⟩
          have st7 := st6.step b7
          obtain ⟨⟨r0, r1, rf0, rf1⟩, ⟨c0, c1, f1⟩, hne⟩ := st7.cells
          have HV := Lib.hid (show atv (atL l).1 = .agg #[.string y, .string z] by rw [HR2.out, HY.out.to, hz.to]; rfl)
          have HN := Lib.hid (show ((atL l).2 : Int) = k + m by rw [HR2.out]; simp)
          go_wp2
          exact ret_atr rfl rfl rfl rfl (atr_stored ((Below.heap_setCell _ _ _ _ hne).trans st7.out) _ _) ⟨by rw [HV.out, HN.out]; rfl, atr_below (st7.bel.setCell (p := ⟨gA, 1, none⟩) (by have := st7.far; simp only []; omega) _) (Nat.le_refl _) _ _⟩
      · have HR := Lib.hid (atL_3 HI.out HJ.out HK.out hjl2 HC.out (by have := HSS.out; omega))
        have hke : k = s.size := by omega
        have HV := Lib.hid (show atv (atL l).1 = .agg #[.string y, .string ⟨#[]⟩] by rw [HR.out, HY.out.to]; rfl)
        have HN := Lib.hid (show ((atL l).2 : Int) = k by rw [HR.out])
        clear hke
        go_wp2
        exact ret_atr rfl rfl rfl rfl (atr_stored st4.out _ _) ⟨by rw [HV.out, HN.out]; rfl, atr_below st4.bel (Nat.le_refl _) _ _⟩
    · have HR := Lib.hid (atL_2 HI.out HJ.out hjl2 hc)
      have q1 : (((s[j]).toNat : Int) != 61) = true := by rw [e1]; simp; omega
      have HV := Lib.hid (show atv (atL l).1 = .agg #[.string y, .string ⟨#[]⟩] by rw [HR.out, HY.out.to]; rfl)
      have HN := Lib.hid (show ((atL l).2 : Int) = j by rw [HR.out])
      generalize hcc : s[j] = c at *
      clear e1 hc
      go_wp2
      exact ret_atr rfl rfl rfl rfl (atr_stored st3.out _ _) ⟨by rw [HV.out, HN.out]; rfl, atr_below st3.bel (Nat.le_refl _) _ _⟩
  · have HR := Lib.hid (atL_1 HI.out HJ.out (by have := HSS.out; omega))
    have hje : j = s.size := by omega
    have HV := Lib.hid (show atv (atL l).1 = .agg #[.string y, .string ⟨#[]⟩] by rw [HR.out, HY.out.to]; rfl)
    have HN := Lib.hid (show ((atL l).2 : Int) = s.size by rw [HR.out, hje])
    clear hje
    go_wp2
    exact ret_atr rfl rfl rfl rfl (atr_stored st3.out _ _) ⟨by rw [HV.out, HN.out]; rfl, atr_below st3.bel (Nat.le_refl _) _ _⟩
end Go.Proofs.Ytninjljkdbemkaa
