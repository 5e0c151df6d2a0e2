/- A queue of steps in memory: a step stored; Swap. -/
import Derived.Test.YtbipdnnalhdoaaaHb
import Derived.Deep.MidRow
namespace Go.Proofs.Ytbipdnnalhdoaaa
open Go.RowKit Go.Maps Go.WideMaps
attribute [local go_sem ↓] Go.wp_at_zero Go.wp_at_succ

theorem heap_set_other {w : World} {p : Addr} {u : Value} {q : Nat} (h : q ≠ p.block) : (w.setCell p u).heap[q]? = w.heap[q]? := Below.heap_setCell w p u q h
theorem size_set {w : World} {p : Addr} {u : Value} : (w.setCell p u).heap.size = w.heap.size := by simp [World.setCell]
theorem one_set {w : World} {R o : Nat} {arr : Array Value} {e : TypeId} (h : w.heap[R]? = some (.cells arr e (0, 0))) (ho : o < arr.size) (v : Value) :
    ∃ W arr', W = w.setCell ⟨R, o, none⟩ v ∧ W.heap[R]? = some (.cells arr' e (0, 0)) ∧ arr'.size = arr.size ∧ (∀ i, i ≠ o → arr'[i]? = arr[i]?) ∧ arr'[o]? = some v ∧ (∀ q, q ≠ R → W.heap[q]? = w.heap[q]?) ∧ W.heap.size = w.heap.size ∧ (w.grownBy W (some R)) := by
  refine ⟨_, _, rfl, heap_setCell_same w R o arr e v h, by simp, fun i hi => ?_, by simp [ho], fun q hq => heap_set_other (p := ⟨R, o, none⟩) hq, size_set, ⟨rfl, rfl, rfl, by rw [size_set]; exact Nat.le_refl _, fun k _ hk => heap_set_other (p := ⟨R, o, none⟩) (fun e => hk (by rw [e]))⟩⟩
  rw [Array.getElem?_setIfInBounds, if_neg (fun e => hi e.symm)]
theorem grown_trans {w w' w'' : World} {r : Option Nat} (h : w.grownBy w' r) (h' : w'.grownBy w'' r) : w.grownBy w'' r :=
  ⟨h'.os.trans h.os, h'.tape.trans h.tape, h'.output.trans h.output, Nat.le_trans h.size h'.size, fun k hk hn => (h'.block k (Nat.lt_of_lt_of_le hk h.size) hn).trans (h.block k hk hn)⟩
theorem grown_drew {w w' : World} {r : Option Nat} (h : w.grownBy w' r) : w.grownBy w'.drew r := ⟨h.os, h.tape, h.output, h.size, h.block⟩
theorem drew_size (w : World) : w.drew.heap.size = w.heap.size := rfl
theorem grown_refl (w : World) (r : Option Nat) : w.grownBy w r := ⟨rfl, rfl, rfl, Nat.le_refl _, fun _ _ _ => rfl⟩
theorem grown_below {B : Nat} {w0 w w' : World} {r : Option Nat} (h : Below B w0 w) (hg : w.grownBy w' r) (hs : B ≤ w.heap.size) (hr : ∀ k, r = some k → B ≤ k) : Below B w0 w' := h.grown hg hs hr
theorem below_grown {w w' : World} {r : Option Nat} (h : Below w.heap.size w w') : w.grownBy w' r := ⟨h.os, h.tape, h.output, h.size, fun k hk _ => h.block k hk⟩

theorem own_mk {w : World} {base g cap : Nat} {e : TypeId} {cur : Array Value} {q : List Stp} (hb : base ≤ g) (hg : w.heap[g]? = some (.cells cur e (0, 0))) (hn : q.length ≤ cap) (hm : cap ≤ maxLen) (hs : cur.size = cap * 5) (hat : ∀ k (hk : k < q.length) r, r < 5 → cur[k * 5 + r]? = (stC q[k])[r]?) :
    w.ownsRow base e 5 (.slice (some ⟨g, 0, none⟩) q.length cap) q.length (stCs q) := by
  refine ⟨stCs_length q, .inr ⟨g, cap, cur, rfl, hb, hg, hn, hm, hs, ?_⟩⟩
  apply List.ext_getElem?
  intro o
  rw [List.getElem?_take]
  by_cases ho : o < q.length * 5
  · rw [if_pos ho]
    have h1 := hat (o / 5) (by omega) (o % 5) (by omega)
    have h2 := stCs_at (q := q) (k := o / 5) (by omega) (o % 5) (by omega)
    rw [show o / 5 * 5 + o % 5 = o by omega] at h1 h2
    rw [h2, ← h1, Array.getElem?_toList]
  · rw [if_neg ho, List.getElem?_eq_none (by rw [stCs_length]; omega)]
theorem own_at {w : World} {base c n : Nat} {e : TypeId} {A : Option Addr} {q : List Stp} (h : w.ownsRow base e 5 (.slice A n c) n (stCs q)) (hn : 0 < n) :
    ∃ g cur, A = some ⟨g, 0, none⟩ ∧ base ≤ g ∧ w.heap[g]? = some (.cells cur e (0, 0)) ∧ n = q.length ∧ n ≤ c ∧ c ≤ maxLen ∧ cur.size = c * 5 ∧ ∀ k (hk : k < q.length) r, r < 5 → cur[k * 5 + r]? = (stC q[k])[r]? := by
  obtain ⟨h1, h2⟩ := h
  rw [stCs_length] at h1
  rcases h2 with ⟨hv, h0⟩ | ⟨g, cap, cur, hv, hb, hg, hnc, hm, hs, ht⟩
  · omega
  · injection hv with hv1 _ hv3
    subst hv1 hv3
    refine ⟨g, cur, rfl, hb, hg, by omega, hnc, hm, hs, fun k hk r hr => ?_⟩
    rw [← stCs_at hk r hr, ← ht, List.getElem?_take, if_pos (by omega), Array.getElem?_toList]

theorem setCells_five (w : World) (g o : Nat) (v0 v1 v2 v3 v4 : Value) : w.setCells g o [v0, v1, v2, v3, v4] = ((((w.setCell ⟨g, o, none⟩ v0).setCell ⟨g, o + 1, none⟩ v1).setCell ⟨g, o + 2, none⟩ v2).setCell ⟨g, o + 3, none⟩ v3).setCell ⟨g, o + 4, none⟩ v4 := by
  simp only [World.setCells]
/-- a step stored at k -/
theorem own_set {w : World} {base g c n k : Nat} {e : TypeId} {q : List Stp} (s : Stp) (h : w.ownsRow base e 5 (.slice (some ⟨g, 0, none⟩) n c) n (stCs q)) (hk : k < n) :
    (w.setCells g (k * 5) (stC s)).ownsRow base e 5 (.slice (some ⟨g, 0, none⟩) n c) n (stCs (q.set k s)) ∧ w.grownBy (w.setCells g (k * 5) (stC s)) (some g) ∧ (w.setCells g (k * 5) (stC s)).heap.size = w.heap.size := by
  obtain ⟨g', cur, hA, hb, hg, hn, hnc, hm, hs, hat⟩ := own_at h (by omega)
  injection hA with hA
  injection hA with hA
  subst hA
  have hk2 : k * 5 + 4 < cur.size := by rw [hs]; omega
  rw [stC, setCells_five]
  obtain ⟨W0, a0, e0, h0, s0, k0, t0, _, z0, b0⟩ := one_set hg (o := k * 5) (by omega) (.int .i64 (s.num : Int))
  obtain ⟨W1, a1, e1, h1, s1, k1, t1, _, z1, b1⟩ := one_set h0 (o := k * 5 + 1) (by omega) (.int .i64 (s.st : Int))
  obtain ⟨W2, a2, e2, h2, s2, k2, t2, _, z2, b2⟩ := one_set h1 (o := k * 5 + 2) (by omega) (.int .i64 (s.cost : Int))
  obtain ⟨W3, a3, e3, h3, s3, k3, t3, _, z3, b3⟩ := one_set h2 (o := k * 5 + 3) (by omega) (.int .i64 s.frm)
  obtain ⟨W4, a4, e4, h4, s4, k4, t4, _, z4, b4⟩ := one_set h3 (o := k * 5 + 4) (by omega) (.int .i64 s.tree)
  rw [← e0, ← e1, ← e2, ← e3, ← e4]
  refine ⟨?_, grown_trans (grown_trans (grown_trans (grown_trans b0 b1) b2) b3) b4, by omega⟩
  have hl : (q.set k s).length = n := by rw [List.length_set, hn]
  have := own_mk (q := q.set k s) hb h4 (by omega) hm (by omega) (fun i hi r hr => by
    rw [List.length_set] at hi
    by_cases hik : i = k
    · subst hik
      rw [List.getElem_set_self]
      match r, hr with
      | 0, _ => rw [Nat.add_zero, k4 _ (by omega), k3 _ (by omega), k2 _ (by omega), k1 _ (by omega), t0]; rfl
      | 1, _ => rw [k4 _ (by omega), k3 _ (by omega), k2 _ (by omega), t1]; rfl
      | 2, _ => rw [k4 _ (by omega), k3 _ (by omega), t2]; rfl
      | 3, _ => rw [k4 _ (by omega), t3]; rfl
      | 4, _ => rw [t4]; rfl
    · rw [List.getElem_set_ne (fun e => hik e.symm), k4 _ (by omega), k3 _ (by omega), k2 _ (by omega), k1 _ (by omega), k0 _ (by omega)]
      exact hat i hi r hr)
  rw [hl] at this
  exact this

/-- a store of a struct in the middle of a row, at a step of a region that draws its order -/
theorem step_store_mid {P : Program} {ops : Array Oper} {op : Oper} {a : Act} {w : World} {K : Act → World → Prop} {Q : Exit → Act → World → Prop} {E : Prop} (hgd : op.guard = none) (ty : TypeId) (x y : Operand) (ho : op.op = .store ty x y)
    (b o : Nat) (cells : Array Value) (hx : a.eval x = .pointer (some ⟨b, o, none⟩)) (hy : a.eval y = .agg cells)
    (ht : w.there b o cells.size) (hi : (P.info? ty).map (·.size) = some cells.size) (h1 : cells.all (·.oneCell') = true)
    (h : K (a.put op.dst undef) (w.setCells b o cells.toList)) : if Region.wanted op (yielded ops a.tmps) = true then op.wp P a w K Q else E := by
  rw [if_pos (by simp [Region.wanted, hgd])]
  exact wp_store_mid ty x y ho b o cells hx hy ht hi h1 h

theorem there_of {w : World} {base g c n k : Nat} {e : TypeId} {q : List Stp} (h : w.ownsRow base e 5 (.slice (some ⟨g, 0, none⟩) n c) n (stCs q)) (hk : k < n) : w.there g (k * 5) 5 := by
  obtain ⟨g', cur, hA, hb, hg, hn, hnc, hm, hs, hat⟩ := own_at h (by omega)
  injection hA with hA
  injection hA with hA
  subst hA
  intro j hj
  refine ⟨?_, Lib.frozen_of_heap hg _⟩
  rw [Lib.cell_of_heap hg, Array.getElem?_eq_getElem (by omega)]
  rfl
theorem infoStp : (Try.prog.info? 72).map (·.size) = some 5 := by kernel_rfl
theorem stC_all (s : Stp) : ((stC s).toArray.all (·.oneCell')) = true := by simp [stC, Value.oneCell']
theorem sw_eq {q : List Stp} {i j : Nat} (hi : i < q.length) (hj : j < q.length) : sw q i j = (q.set i q[j]).set j q[i] := by unfold sw; rw [dif_pos ⟨hi, hj⟩]

theorem cell_set_some {w : World} {p a : Addr} {v : Value} (h : (w.cell? a).isSome = true) : ∃ u, (w.setCell p v).cell? a = some u := by
  obtain ⟨u, hu⟩ := Option.isSome_iff_exists.1 h
  by_cases e : p = a
  · subst e; exact ⟨v, World.cell?_setCell_same _ _ _ hu⟩
  · exact ⟨u, (World.cell?_setCell_other _ _ _ _ e).trans hu⟩

theorem some_set {w : World} {p a : Addr} {v : Value} (h : (w.cell? a).isSome = true) : ((w.setCell p v).cell? a).isSome = true := by
  obtain ⟨u, hu⟩ := cell_set_some (p := p) (v := v) h
  rw [hu]; rfl

set_option maxHeartbeats 1000000 in
set_option maxRecDepth 100000 in
/-- Swap -/
theorem swap_any {w : World} {base g c i j : Nat} {q : List Stp} (h : w.ownsRow base 72 5 (.slice (some ⟨g, 0, none⟩) q.length c) q.length (stCs q)) (hi : i < q.length) (hj : j < q.length) :
    Calls Try.prog 80 #[.slice (some ⟨g, 0, none⟩) q.length c, .int .i64 i, .int .i64 j] w fun e w' => e = .returned (.tuple #[]) ∧ w'.ownsRow base 72 5 (.slice (some ⟨g, 0, none⟩) q.length c) q.length (stCs (sw q i j)) ∧ w.grownBy w' (some g) ∧ w'.heap.size = w.heap.size := by
  have hcell : ∀ {k : Nat} (hk : k < q.length), w.cell? ⟨g, k * 5, none⟩ = some (.int .i64 (q[k].num : Int)) ∧ w.cell? ⟨g, k * 5 + 1, none⟩ = some (.int .i64 (q[k].st : Int)) ∧
      w.cell? ⟨g, k * 5 + 2, none⟩ = some (.int .i64 (q[k].cost : Int)) ∧ w.cell? ⟨g, k * 5 + 3, none⟩ = some (.int .i64 q[k].frm) ∧ w.cell? ⟨g, k * 5 + 4, none⟩ = some (.int .i64 q[k].tree) := by
    intro k hk
    obtain ⟨g', cur, hA, hb, hg, hn, hnc, hm, hs, hat⟩ := own_at h (by omega)
    injection hA with hA
    injection hA with hA
    subst hA
    have h0 := hat k hk 0 (by omega)
    have h1 := hat k hk 1 (by omega)
    have h2 := hat k hk 2 (by omega)
    have h3 := hat k hk 3 (by omega)
    have h4 := hat k hk 4 (by omega)
    exact ⟨(Lib.cell_of_heap hg _).trans h0, (Lib.cell_of_heap hg _).trans h1, (Lib.cell_of_heap hg _).trans h2, (Lib.cell_of_heap hg _).trans h3, (Lib.cell_of_heap hg _).trans h4⟩
  obtain ⟨i0, i1, i2, i3, i4⟩ := hcell hi
  obtain ⟨j0, j1, j2, j3, j4⟩ := hcell hj
  have hiI : (i : Int) < (q.length : Int) := by omega
  have hjI : (j : Int) < (q.length : Int) := by omega
  have hi0 : (0 : Int) ≤ (i : Int) := by omega
  have hj0 : (0 : Int) ≤ (j : Int) := by omega
  have HSW := Lib.hid (sw_eq hi hj)
  have ti := there_of h hi
  have tj := there_of h hj
  have HO := Lib.hid h
  have fi0 := (ti 0 (by omega)).2
  have fi1 := (ti 1 (by omega)).2
  have fi2 := (ti 2 (by omega)).2
  have fi3 := (ti 3 (by omega)).2
  have fi4 := (ti 4 (by omega)).2
  have fj0 := (tj 0 (by omega)).2
  have fj1 := (tj 1 (by omega)).2
  have fj2 := (tj 2 (by omega)).2
  have fj3 := (tj 3 (by omega)).2
  have fj4 := (tj 4 (by omega)).2
  simp only [Nat.add_zero] at fi0 fj0
  obtain ⟨u0, k0⟩ := cell_set_some (w := w) (p := ⟨g, i * 5, none⟩) (v := (.int .i64 (q[j].num : Int))) (tj 0 (by omega)).1
  obtain ⟨u1, k1⟩ := cell_set_some (w := (w.setCell ⟨g, i * 5, none⟩ (.int .i64 (q[j].num : Int)))) (p := ⟨g, i * 5 + 1, none⟩) (v := (.int .i64 (q[j].st : Int))) (some_set (p := ⟨g, i * 5, none⟩) (v := (.int .i64 (q[j].num : Int))) (tj 1 (by omega)).1)
  obtain ⟨u2, k2⟩ := cell_set_some (w := ((w.setCell ⟨g, i * 5, none⟩ (.int .i64 (q[j].num : Int))).setCell ⟨g, i * 5 + 1, none⟩ (.int .i64 (q[j].st : Int)))) (p := ⟨g, i * 5 + 2, none⟩) (v := (.int .i64 (q[j].cost : Int))) (some_set (p := ⟨g, i * 5 + 1, none⟩) (v := (.int .i64 (q[j].st : Int))) (some_set (p := ⟨g, i * 5, none⟩) (v := (.int .i64 (q[j].num : Int))) (tj 2 (by omega)).1))
  obtain ⟨u3, k3⟩ := cell_set_some (w := (((w.setCell ⟨g, i * 5, none⟩ (.int .i64 (q[j].num : Int))).setCell ⟨g, i * 5 + 1, none⟩ (.int .i64 (q[j].st : Int))).setCell ⟨g, i * 5 + 2, none⟩ (.int .i64 (q[j].cost : Int)))) (p := ⟨g, i * 5 + 3, none⟩) (v := (.int .i64 q[j].frm)) (some_set (p := ⟨g, i * 5 + 2, none⟩) (v := (.int .i64 (q[j].cost : Int))) (some_set (p := ⟨g, i * 5 + 1, none⟩) (v := (.int .i64 (q[j].st : Int))) (some_set (p := ⟨g, i * 5, none⟩) (v := (.int .i64 (q[j].num : Int))) (tj 3 (by omega)).1)))
  obtain ⟨u4, k4⟩ := cell_set_some (w := ((((w.setCell ⟨g, i * 5, none⟩ (.int .i64 (q[j].num : Int))).setCell ⟨g, i * 5 + 1, none⟩ (.int .i64 (q[j].st : Int))).setCell ⟨g, i * 5 + 2, none⟩ (.int .i64 (q[j].cost : Int))).setCell ⟨g, i * 5 + 3, none⟩ (.int .i64 q[j].frm))) (p := ⟨g, i * 5 + 4, none⟩) (v := (.int .i64 q[j].tree)) (some_set (p := ⟨g, i * 5 + 3, none⟩) (v := (.int .i64 q[j].frm)) (some_set (p := ⟨g, i * 5 + 2, none⟩) (v := (.int .i64 (q[j].cost : Int))) (some_set (p := ⟨g, i * 5 + 1, none⟩) (v := (.int .i64 (q[j].st : Int))) (some_set (p := ⟨g, i * 5, none⟩) (v := (.int .i64 (q[j].num : Int))) (tj 4 (by omega)).1))))
  simp only [Nat.add_zero] at k0
  clear hcell h
  generalize q[i] = s at *
  generalize q[j] = t at *
  go_enter Try.func80, Try.ntmps80
  go_wp2
  go_region
  all_goals
    have h1 := own_set t HO.out hi
    have h2 := own_set s h1.1 hj
    have hE : ((w.setCells g (i * 5) (stC t)).setCells g (j * 5) (stC s)) = (((((((((w.setCell ⟨g, i * 5, none⟩ (.int .i64 (t.num : Int))).setCell ⟨g, i * 5 + 1, none⟩ (.int .i64 (t.st : Int))).setCell ⟨g, i * 5 + 2, none⟩ (.int .i64 (t.cost : Int))).setCell ⟨g, i * 5 + 3, none⟩ (.int .i64 t.frm)).setCell ⟨g, i * 5 + 4, none⟩ (.int .i64 t.tree)).setCell ⟨g, j * 5, none⟩ (.int .i64 (s.num : Int))).setCell ⟨g, j * 5 + 1, none⟩ (.int .i64 (s.st : Int))).setCell ⟨g, j * 5 + 2, none⟩ (.int .i64 (s.cost : Int))).setCell ⟨g, j * 5 + 3, none⟩ (.int .i64 s.frm)).setCell ⟨g, j * 5 + 4, none⟩ (.int .i64 s.tree) := by
      rw [stC, stC, setCells_five, setCells_five]
    rw [hE, ← HSW.out] at h2
    exact bodyPost_end (results_none rfl _ _ _) rfl ⟨rfl, h2.1.drew, grown_drew (grown_trans h1.2.1 h2.2.1), (drew_size _).trans (h2.2.2.trans h1.2.2)⟩
end Go.Proofs.Ytbipdnnalhdoaaa
