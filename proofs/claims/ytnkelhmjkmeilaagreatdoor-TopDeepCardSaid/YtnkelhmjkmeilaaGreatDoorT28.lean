/- The document's last, Trees: trees made of numbers. The document's Good: an automaton that may be. hedge.clone: a side of its own rows. -/
import Derived.Test.YtnkelhmjkmeilaaGreatDoorT27
import Derived.Test.YtnkelhmjkmeilaaGreatDoorT24
section
namespace Go.Proofs.YtnkelhmjkmeilaaGreatDoor.H
open Go.RowKit Go.Maps Go.WideMaps
attribute [local go_sem ↓] Go.wp_at_zero Go.wp_at_succ
theorem own_le {w : World} {base base' size n : Nat} {e : TypeId} {v : Value} {xs : List Value} (h : w.ownsRow base e size v n xs) (hb : base' ≤ base) : w.ownsRow base' e size v n xs :=
  ⟨h.1, h.2.elim Or.inl (fun ⟨g, cap, cur, hv, hg, r⟩ => Or.inr ⟨g, cap, cur, hv, Nat.le_trans hb hg, r⟩)⟩
theorem rdP_own {w : World} {base n c z : Nat} {e : TypeId} {A : Option Addr} {xs : List Value} (h : w.ownsRow base e z (.slice A n c) n xs) : RdP w (fun b => (Value.slice A n c).ownBlock = some b ∧ base ≤ b ∧ b < w.heap.size) z A n xs := by
  obtain ⟨h1, h2⟩ := RdP.of_own h
  refine ⟨h1, fun hne => ?_⟩
  obtain ⟨a, ha, hb, hc⟩ := h2 hne
  exact ⟨a, ha, ⟨by rw [ha]; rfl, hb⟩, hc⟩
section
variable {w w' : World} {base cP cO : Nat} {P O : Option Addr} {p : List Nat} {l l' : List Tr}
end
end Go.Proofs.YtnkelhmjkmeilaaGreatDoor.H
end
section
namespace Go.Proofs.YtnkelhmjkmeilaaGreatDoor.H
open Go.RowKit Go.Maps Go.WideMaps
attribute [local go_sem ↓] Go.wp_at_zero Go.wp_at_succ
theorem infoSd : (Tryz.prog.info? 113).map (fun i => (i.zero, i.size, i.bytes)) = some (some (.agg #[.slice none 0 0, .slice none 0 0]), 2, 48) := by kernel_rfl
theorem rowSd : Row Tryz.prog 109 113 2 48 := by
  obtain ⟨i, hi, hz, h1, h2⟩ := info_parts infoSd
  exact ⟨Tryz.underlying109, ⟨i, _, hi, hz, h1, h2, rfl⟩, by decide⟩
theorem ret_hd {f : Func} {p : Tmp} (h : f.results = #[.cell p 115]) {a : Act} {w : World} {g : Nat} {v0 v1 v2 v3 : Value} {R : Ending → World → Prop} (hp : a.tmps.getD p undef = .pointer (some ⟨g, 0, none⟩)) (hd : a.defers = [])
    (hg : w.heap[g]? = some (.cells #[v0, v1, v2, v3] 115 (0, 0))) (hR : R (.returned (.agg #[v0, v1, v2, v3])) w) : bodyPost Tryz.prog f R .ret a w := by
  have hc := fun j => Lib.cell_of_heap hg j
  have c0 := hc 0
  have c1 := hc 1
  have c2 := hc 2
  have c3 := hc 3
  simp only [List.getElem?_toArray, List.getElem?_cons_zero, List.getElem?_cons_succ] at c0 c1 c2 c3
  refine bodyPost_ret (v := .agg #[v0, v1, v2, v3]) ?_ hd hR
  rw [results_cell1' h, hp]
  go_simp
theorem four_stored {w : World} {g : Nat} {a b c d : Value} {T : TypeId} (h : w.heap[g]? = some (.cells #[a, b, c, d] T (0, 0))) (v0 v1 v2 v3 : Value) :
    ((((w.setCell ⟨g, 0, none⟩ v0).setCell ⟨g, 1, none⟩ v1).setCell ⟨g, 2, none⟩ v2).setCell ⟨g, 3, none⟩ v3).heap[g]? = some (.cells #[v0, v1, v2, v3] T (0, 0)) := by
  have h0 := heap_setCell_same w g 0 _ _ v0 h
  have h1 := heap_setCell_same _ g 1 _ _ v1 h0
  have h2 := heap_setCell_same _ g 2 _ _ v2 h1
  have h3 := heap_setCell_same _ g 3 _ _ v3 h2
  simpa using h3
structure RowsIn (w : World) (A : Option Addr) (ls : List (List Int)) : Prop where
  sl : SlP w (fun b => b < w.heap.size) 1 A ls.length (ls.map rowC)
  len : ls.length ≤ 9223372036854775807
  bd : ∀ l ∈ ls, ∀ x ∈ l, IntB x
theorem RowsIn.on {w w' : World} {A : Option Addr} {ls : List (List Int)} (h : RowsIn w A ls) (hb : Below w.heap.size w w') : RowsIn w' A ls := ⟨Sl.on h.sl hb, h.len, h.bd⟩
theorem rows_at {w : World} {S : Nat → Prop} {A : Option Addr} {n : Nat} {ls : List (List Int)} (H : SlP w S 1 A n (ls.map rowC)) {k : Nat} {r : List Int} (hk : ls[k]? = some r) :
    ∃ a R c, A = some a ∧ S a.block ∧ w.cell? (a.add k) = some (.slice R r.length c) ∧ Cap r.length c ∧ SlP w S 1 R r.length (r.map .i) := by
  obtain ⟨a, R, c, e, hS, h1, h2, h3⟩ := H.atSl (k := k) (z' := 1) (n' := r.length) (cs' := r.map .i) (by rw [List.getElem?_map, hk]; rfl)
  exact ⟨a, R, c, e, hS, h1, h2, h3⟩
end Go.Proofs.YtnkelhmjkmeilaaGreatDoor.H
end
section
namespace Go.Proofs.YtnkelhmjkmeilaaGreatDoor.H
open Go.RowKit Go.Maps Go.WideMaps
attribute [local go_sem ↓] Go.wp_at_zero Go.wp_at_succ
theorem wpList_own {P : Program} {w : World} {ops : Array Oper} {rest : List Oper} {o : Oper} {a : Act} {Q : Exit → Act → World → Prop} (hgd : o.guard = none) (s x : Operand) (t : TypeId) (ho : o.op = .call { callee := .builtin .append, args := #[s, x], argTypes := #[t, t] })
    (base : Nat) {e : TypeId} {size bytes : Nat} (R : Row P t e size bytes) (A : Option Addr) (n c : Nat) (xs : List Value) (hs : a.eval s = .slice A n c) (hown : w.ownsRow base e size (.slice A n c) n xs)
    (y : Addr) (m c1 : Nat) (ys : List Value) (hx : a.eval x = .slice (some y) m c1) (hl : ys.length = m * size) (hcell : ∀ j u, ys[j]? = some u → w.cell? (y.add j) = some u) (h1 : ∀ u ∈ ys, u.oneCell' = true)
    (h63 : n + m ≤ maxLen) (hbytes : (n + m) * bytes ≤ 140737488355328) (hbase : base ≤ w.heap.size)
    (h : ∀ A' c' w', n + m ≤ c' → w'.ownsRow base e size (.slice A' (n + m) c') (n + m) (xs ++ ys) → w.grownBy w' (Value.slice A n c).ownBlock → wpList P ops Q rest (a.put o.dst (.slice A' (n + m) c')) w') :
    wpList P ops Q (o :: rest) a w := by
  obtain ⟨i, z, hi, hz, hsize, hby, hzs⟩ := R.ex
  refine wpList_append_own_at _ hgd s x t ho base e i z size bytes R.und hi hz hsize hby hzs R.pos _ n xs hs hown y m c1 ys hx hl hcell h1 h63 hbytes hbase ?_
  intro v' w' h2 h3 _ h4
  obtain ⟨A', c', rfl, hc'⟩ := own_shape h2
  exact h A' c' w' hc' h2 h3
set_option maxHeartbeats 1000000 in
set_option maxRecDepth 100000 in
theorem clone_ints {w : World} {A : Option Addr} {c : Nat} {l : List Int} (H : SlP w (fun b => b < w.heap.size) 1 A l.length (l.map .i)) (hl : l.length ≤ 1000) :
    Calls Tryz.prog 119 #[.slice A l.length c] w fun e w' => ∃ A' c', e = .returned (.slice A' l.length c') ∧ w'.ownsRow w.heap.size 3 1 (.slice A' l.length c') l.length (ints l) ∧ Below w.heap.size w w' := by
  obtain ⟨xs, ⟨hxl, hrd⟩, hcs⟩ := H
  obtain rfl := hcs.isInts
  have q0 : ∀ (w : World) (n c : Nat), (binOp .eql 111 (.slice none n c) (.slice none 0 0)).run Tryz.prog w = .ok (.bool true) w := fun w n c => Lib.run_eql_slice_nil w _ _ none n c 0 0 Tryz.underlying111
  have q1 : ∀ (w : World) (a : Addr) (n c : Nat), (binOp .eql 111 (.slice (some a) n c) (.slice none 0 0)).run Tryz.prog w = .ok (.bool false) w := fun w a n c => Lib.run_eql_slice_nil w _ _ (some a) n c 0 0 Tryz.underlying111
  rcases A with _ | a
  · have hl0 : l = [] := by
      rcases l with _ | ⟨x, l⟩
      · rfl
      · obtain ⟨a, e, _⟩ := hrd (by simp); cases e
    subst hl0
    go_enter Tryz.func119, Tryz.ntmps119
    go_wp2
    go_ret
    exact ⟨none, 0, rfl, World.ownsRow_nil _ _ _ _, Below.refl _ _⟩
  · have b0 := (Below.refl _ w).alloc (Nat.le_refl _) (.cells #[] 3)
    have o0 : (w.alloc (.cells #[] 3)).ownsRow w.heap.size 3 1 (.slice (some ⟨w.heap.size, 0, none⟩) 0 0) 0 [] :=
      ⟨rfl, .inr ⟨w.heap.size, 0, #[], rfl, Nat.le_refl _, heap_alloc_new w _, Nat.le_refl _, by decide, rfl, rfl⟩⟩
    have hcell : ∀ j u, (l.map (Value.int .i64))[j]? = some u → (w.alloc (.cells #[] 3)).cell? (a.add j) = some u := fun j u hu => by
      obtain ⟨a', e, hb, hc⟩ := hrd (by intro h; rw [h] at hu; simp at hu)
      injection e with e
      subst e
      exact (b0.cell (p := a.add j) (by rw [block_add]; exact hb)).trans (hc j u hu)
    have hone := hcs.one
    have hbs := b0.size
    go_enter Tryz.func119, Tryz.ntmps119
    go_wp2_with (at_builtin; go_must (refine wpList_own rfl _ _ _ rfl w.heap.size rowIn (some ⟨w.heap.size, 0, none⟩) 0 0 [] rfl o0 a l.length c (l.map (Value.int .i64)) rfl (by simp) hcell hone (by unfold maxLen; omega) (by omega) hbs ?_); intro A5 c5 W5 hc5 ho5 hg5)
    rw [Nat.zero_add, List.nil_append] at ho5
    have hb5 := b0.grown hg5 hbs (fun q hq => by simp [Value.ownBlock] at hq; omega)
    have HR := Lib.hid (show ∃ A' c', Ending.returned (.slice A5 l.length c5) = .returned (.slice A' l.length c') ∧ W5.ownsRow w.heap.size 3 1 (.slice A' l.length c') l.length (ints l) ∧ Below w.heap.size w W5 from ⟨A5, c5, rfl, ho5, hb5⟩)
    clear ho5 hg5 hb5 hc5 hcell o0 b0 hcs hrd hone hbs
    go_wp2
    go_ret
    simp only []
    exact HR.out
def CloneRet (w : World) (s : Sd) (e : Ending) (w' : World) : Prop := ∃ (N : Option Addr) (cN : Nat) (O : Option Addr) (cO : Nat), e = .returned (sdVal s N cN O cO) ∧ GS w' w.heap.size N cN O cO s.nx s.out ∧ Below w.heap.size w w'
theorem GS.of {w : World} {base b2 : Nat} {N O : Option Addr} {cN cO : Nat} {nx : List (List Int)} {ot : List Int} (h1 : OwnC w b2 111 1 N nx.length cN (nx.map rowC)) (h2 : w.ownsRow base 3 1 (.slice O ot.length cO) ot.length (ints ot)) (hb : base ≤ b2) (hlt : ∀ q, (Value.slice O ot.length cO).ownBlock = some q → q < b2) : GS w base N cN O cO nx ot := by
  obtain ⟨xs, h1, h3⟩ := h1
  refine ⟨⟨xs, own_le h1 hb, ?_⟩, h2, ?_⟩
  · refine h3.more fun b hb' => ⟨Nat.le_trans hb hb'.1, hb'.2.1, hb'.2.2, fun e => ?_⟩
    have := hlt b e
    have := hb'.1
    omega
  · intro q hq e
    have := hlt q e
    have := (h1.lt q hq).1
    omega
set_option maxHeartbeats 4000000 in
set_option maxRecDepth 100000 in
theorem clone_any {w : World} {s : Sd} {A D : Option Addr} {a1 d1 : Nat} (H : SdV w (fun b => b < w.heap.size) s A a1 D d1) (hn : s.nx.length ≤ 1000) (ho : s.out.length ≤ 1000) (hr : ∀ r ∈ s.nx, r.length ≤ 1000) :
    Calls Tryz.prog 80 #[sdVal s A a1 D d1] w (CloneRet w s) := by
  have hB0 := (Below.refl _ w).alloc (Nat.le_refl _) (.cells #[.slice A s.nx.length a1, .slice D s.out.length d1] 113)
  have hx0 := heap_alloc_new w (.cells #[.slice A s.nx.length a1, .slice D s.out.length d1] 113)
  have hs0 : (w.alloc (.cells #[.slice A s.nx.length a1, .slice D s.out.length d1] 113)).heap.size = w.heap.size + 1 := World.size_alloc _ _
  have hB1 := hB0.alloc (by omega) (.cells #[.slice none 0 0, .slice none 0 0] 113)
  have hx1 := heap_alloc_new (w.alloc (.cells #[.slice A s.nx.length a1, .slice D s.out.length d1] 113)) (.cells #[.slice none 0 0, .slice none 0 0] 113)
  have hx0' := (Below.heap_alloc (w.alloc (.cells #[.slice A s.nx.length a1, .slice D s.out.length d1] 113)) (.cells #[.slice none 0 0, .slice none 0 0] 113) w.heap.size (by omega)).trans hx0
  have hs1 : ((w.alloc (.cells #[.slice A s.nx.length a1, .slice D s.out.length d1] 113)).alloc (.cells #[.slice none 0 0, .slice none 0 0] 113)).heap.size = w.heap.size + 2 := by rw [World.size_alloc, hs0]
  rw [hs0] at hx1
  go_enter Tryz.func80, Tryz.ntmps80
  go_upto_region 1 with fail
  generalize (w.alloc (.cells #[.slice A s.nx.length a1, .slice D s.out.length d1] 113)).alloc (.cells #[.slice none 0 0, .slice none 0 0] 113) = W1 at *
  have x0 := Lib.cell_of_heap hx0' 0
  have x1 := Lib.cell_of_heap hx0' 1
  simp only [List.getElem?_toArray, List.getElem?_cons_zero, List.getElem?_cons_succ] at x0 x1
  have HV1 := Lib.hid (H.on hB1)
  have HB1 := Lib.hid hB1
  have HX0 := Lib.hid hx0'
  have HX1 := Lib.hid hx1
  have HS1 := Lib.hid hs1
  have HC := Lib.hid (clone_ints (w := W1) (c := d1) HV1.out.out ho)
  have hwl0 := (Array.getElem?_eq_some_iff.1 hx0').1
  have hwl1 := (Array.getElem?_eq_some_iff.1 hx1).1
  clear H hB0 hB1 hx0 hx1 hs0 hs1 hx0'
  go_wp2_with fail
  refine HC.out.mono ?_
  rintro e W2 ⟨C, cC, rfl, hoC, b2⟩
  have hal := (Below.refl _ W2).alloc (Nat.le_refl _) (.cells #[.slice none 0 0, .slice C s.out.length cC] 113)
  have hxc := heap_alloc_new W2 (.cells #[.slice none 0 0, .slice C s.out.length cC] 113)
  have hX02 := (b2.block _ hwl0).trans HX0.out
  replace x0 := Lib.cell_of_heap hX02 0
  replace x1 := Lib.cell_of_heap hX02 1
  simp only [List.getElem?_toArray, List.getElem?_cons_zero, List.getElem?_cons_succ] at x0 x1
  go_upto_region 2 with fail
  generalize W2.alloc (.cells #[.slice none 0 0, .slice C s.out.length cC] 113) = W3 at *
  obtain ⟨cB, hcB⟩ : ∃ cB, cB = W2.heap.size := ⟨_, rfl⟩
  rw [← hcB] at hxc ⊢
  have hb13 : Below W1.heap.size W1 W3 := b2.trans (hal.mono b2.size)
  have hX03 := (hb13.block _ hwl0).trans HX0.out
  have hX13 := (hb13.block _ hwl1).trans HX1.out
  replace x0 := Lib.cell_of_heap hX03 0
  replace x1 := Lib.cell_of_heap hX03 1
  simp only [List.getElem?_toArray, List.getElem?_cons_zero, List.getElem?_cons_succ] at x0 x1
  have hclt : ∀ q, (Value.slice C s.out.length cC).ownBlock = some q → q < cB := fun q hq => by rw [hcB]; exact (hoC.lt q hq).2
  have hb12 : W1.heap.size ≤ cB := by rw [hcB]; exact b2.size
  have HO3 := Lib.hid (own_below hoC hal (Nat.le_refl _))
  have HV3 := Lib.hid ((SlP.keep HV1.out.nx fun p hp => hb13.cell hp).more (S' := fun b => b < cB) fun b hb => Nat.lt_of_lt_of_le hb hb12)
  have HB3 := Lib.hid (HB1.out.trans (hb13.mono HB1.out.size))
  have HX3 := Lib.hid hX13
  have HXC := Lib.hid hxc
  have HCL := Lib.hid hclt
  have HAL := Lib.hid (show Below cB W3 W3 ∧ cB < W3.heap.size from ⟨Below.refl _ _, (Array.getElem?_eq_some_iff.1 hxc).1⟩)
  have HR := Lib.hid hr
  clear hoC hal hxc hX02 hX03 hX13 b2 hb13 hclt HV1 HX0 HX1 HC HB1 hr hcB
  go_wp2
  go_loopw [13] (fun iv wr => ∃ (i cN : Nat) (N : Option Addr), iv = .int .i64 i ∧ i ≤ s.nx.length ∧ wr.heap[cB]? = some (.cells #[.slice N i cN, .slice C s.out.length cC] 113 (0, 0)) ∧
    OwnC wr (cB + 1) 111 1 N i cN ((s.nx.take i).map rowC) ∧ Below cB W3 wr) (fun iv _ => s.nx.length - (intOf iv).toNat)
  case atStart => exact ⟨0, 0, none, rfl, Nat.zero_le _, HXC.out, OwnC.nil _ _ _ _, HAL.out.1⟩
  case round =>
    obtain ⟨i, cN, N, rfl, hi, hgc, hO, hbr⟩ := hrel
    have HGC := Lib.hid hgc
    have HO := Lib.hid hO
    have HBR := Lib.hid hbr
    clear hgc hO hbr
    by_cases hlt : i < s.nx.length
    · obtain ⟨r, hrw⟩ : ∃ r, s.nx[i]? = some r := ⟨_, List.getElem?_eq_getElem hlt⟩
      have hrl := HR.out r (List.mem_of_getElem? hrw)
      obtain ⟨a, R, rc, rfl, hab, k0, hrc, hrow⟩ := rows_at (SlP.keep HV3.out fun p hp => HBR.out.cell hp) hrw
      have hiI : (i : Int) < (s.nx.length : Int) := by omega
      have hi0 : (0 : Int) ≤ (i : Int) := by omega
      have HTK := Lib.hid (show (s.nx.take (i + 1)).map rowC = (s.nx.take i).map rowC ++ [rowC r] by
        rw [List.take_succ_eq_append_getElem hlt, (List.getElem?_eq_some_iff.1 hrw).2, List.map_append]; rfl)
      have hcw : cB < wr.heap.size := (Array.getElem?_eq_some_iff.1 HGC.out).1
      have HC := Lib.hid (clone_ints (w := wr.drew) (c := rc) ((SlP.keep hrow fun p hp => (Below.drew (Below.refl _ wr)).cell (Nat.lt_trans hp hcw)).more fun b hb => Nat.lt_trans hb hcw) hrl)
      have z0 := Lib.cell_of_heap HGC.out 0
      have f0 := Lib.frozen_of_heap HGC.out 0
      simp only [List.getElem?_toArray, List.getElem?_cons_zero] at z0
      obtain ⟨xs, o1, o2⟩ := HO.out
      have HO1 := Lib.hid o1
      have HO2 := Lib.hid o2
      have hneg : some cB ≠ (Value.slice N i cN).ownBlock := fun e => by have := (HO1.out.lt cB e.symm).1; omega
      clear hrow o1 o2 hrw
      go_upto_region 5 with fail
      have hi1000 : i ≤ 1000 := by omega
      refine wp_region_noPanic ?_
      refine wp_region_held_drew (S := (fun _ => True)) (by kernel_rfl) ?_ (fun hHeld => ?_)
      · (try dsimp only)
        all_goals trivial
      refine wpAnyH_take (i := 0) (v := ?_) rfl (by kernel_rfl) (by kernel_rfl) (by kernel_rfl) (fun _ _ _ h => h) (Or.inl ⟨by rfl, ?_⟩) (by assumption) ?_
      rotate_left
      · (intro w hSw; (try dsimp only at hSw); go_simp; try with_reducible rfl)
      try simp only [Act.put, List.setIfInBounds_toArray]
      refine wpAnyH_take (i := 2) (v := ?_) rfl (by kernel_rfl) (by kernel_rfl) (by kernel_rfl) (fun _ _ _ h => h) (Or.inl ⟨by rfl, ?_⟩) (by assumption) ?_
      rotate_left
      · (intro w hSw; (try dsimp only at hSw); go_simp; try with_reducible rfl)
      try simp only [Act.put]
      refine wpAnyH_ready (rs := [1, 3]) (by kernel_rfl) (by simp) ?_
      refine AllReadyH.cons rfl (fun K hK => ?_) ?_
      · go_simp
        refine hK.out _ _ ?_ (fun hNew => ?_)
        · (try dsimp only)
          all_goals trivial
        clear hK K
        try simp only [Act.put, List.setIfInBounds_toArray, List.set_cons_zero, List.set_cons_succ]
        clear hHeld
        have hHeld := hNew
        clear hNew
        refine wpAnyH_ready (rs := [3]) (by kernel_rfl) (by simp) ?_
        refine AllReadyH.cons rfl (fun K hK => ?_) ?_
        · go_simp
          (go_at_call 119; refine HC.out.mono ?_; rintro e W5 ⟨C5, c5, rfl, o5, b5⟩; have hg5 := Nat.lt_of_lt_of_le hcw b5.size; have y0 := (b5.cell (p := ⟨cB, 0, none⟩) hcw).trans z0; have yf := (b5.frozen (p := ⟨cB, 0, none⟩) hcw).trans f0; have ya := (World.cell?_of_block (a := ⟨cB, 0, none⟩) (Below.heap_alloc W5 (.cells #[.slice C5 r.length c5] 111) cB hg5)).trans y0; have o6 := own_below HO1.out ((Below.drew (Below.refl _ wr)).trans b5) (Nat.le_refl _); have hbs5 : cB + 1 ≤ W5.heap.size := hg5)
          try go_wp2_with fail
          refine hK.out _ _ ?_ (fun hNew => ?_)
          · (try dsimp only)
            all_goals trivial
          clear hK K
          try simp only [Act.put, List.setIfInBounds_toArray, List.set_cons_zero, List.set_cons_succ]
          clear hHeld
          have hHeld := hNew
          clear hNew
          refine wpAnyH_ready (rs := [4]) (by kernel_rfl) (by simp) ?_
          refine AllReadyH.cons rfl (fun K hK => ?_) ?_
          · go_simp
            refine hK.out _ _ ?_ (fun hNew => ?_)
            · (try dsimp only)
              all_goals trivial
            clear hK K
            try simp only [Act.put, List.setIfInBounds_toArray, List.set_cons_zero, List.set_cons_succ]
            clear hHeld
            have hHeld := hNew
            clear hNew
            refine wpAnyH_ready (rs := [5]) (by kernel_rfl) (by simp) ?_
            refine AllReadyH.cons rfl (fun K hK => ?_) ?_
            · (refine step_push (by rfl) _ _ _ (by rfl) (cB + 1) rowSl N i cN _ (by rfl) (o6.alloc _) W5.heap.size 1 _ (by rfl) (heap_alloc_new W5 _) (by rfl) (by simp [Value.oneCell']) (by unfold maxLen; omega) (by omega) (by simp; omega) ?_; intro N7 cN7 W7 hc7 ho7 hg7 hat7; have g70 := (grown_cell hg7 (a := ⟨cB, 0, none⟩) (by simp; omega) hneg).1.trans ya; have g71 := (grown_cell hg7 (a := ⟨cB, 0, none⟩) (by simp; omega) hneg).2.trans ((World.frozen?_of_block (a := ⟨cB, 0, none⟩) (Below.heap_alloc W5 (.cells #[.slice C5 r.length c5] 111) cB hg5)).trans yf))
              refine hK.out _ _ ?_ (fun hNew => ?_)
              · (try dsimp only)
                all_goals trivial
              clear hK K
              try simp only [Act.put, List.setIfInBounds_toArray]
              clear hHeld
              have hHeld := hNew
              clear hNew
              refine wpAnyH_take (i := 6) (v := ?_) rfl (by kernel_rfl) (by kernel_rfl) (by kernel_rfl) (fun _ _ _ h => h) (Or.inl ⟨by rfl, ?_⟩) (by assumption) ?_
              rotate_left
              · (intro w hSw; (try dsimp only at hSw); go_simp; try with_reducible rfl)
              try simp only [Act.put]
              refine wpAnyH_ready (rs := [7]) (by kernel_rfl) (by simp) ?_
              refine AllReadyH.cons rfl (fun K hK => ?_) ?_
              · go_simp
                refine hK.out _ _ ?_ (fun hNew => ?_)
                · (try dsimp only)
                  all_goals trivial
                clear hK K
                try simp only [Act.put, List.setIfInBounds_toArray, List.set_cons_zero, List.set_cons_succ]
                clear hHeld
                have hHeld := hNew
                clear hNew
                refine wpAnyH_done (by kernel_rfl) ?_ _
                refine NoPanic.normal ?_
                have hbw5 := (Below.drew (Below.refl _ wr)).trans b5
                have hba := (Below.refl _ W5).alloc (Nat.le_refl _) (.cells #[.slice C5 r.length c5] 111)
                have hgc7 := (hg7.block cB (by simp; omega) hneg).trans ((hba.block cB hg5).trans ((hbw5.block cB hcw).trans HGC.out))
                have hgc8 := heap_setCell_same W7 cB 0 _ _ (.slice N7 (i + 1) cN7) hgc7
                rw [show (#[Value.slice N i cN, Value.slice C s.out.length cC].setIfInBounds 0 (.slice N7 (i + 1) cN7)) = #[.slice N7 (i + 1) cN7, .slice C s.out.length cC] from rfl] at hgc8
                have hNl : ∀ q, (Value.slice N i cN).ownBlock = some q → cB < q ∧ q < wr.heap.size := fun q hq => ⟨by have h9 := (HO1.out.lt q hq).1; omega, (HO1.out.lt q hq).2⟩
                have hap : ∀ q, wr.heap.size ≤ q ∧ q < W5.heap.size → Apart (cB + 1) (W5.alloc (.cells #[.slice C5 r.length c5] 111)) (.slice N i cN) q := fun q hq => ⟨by omega, Nat.lt_of_lt_of_le hq.2 hba.size, fun e => by have := (hNl q e).2; omega⟩
                have hrv : CIsP (W5.alloc (.cells #[.slice C5 r.length c5] 111)) (Apart (cB + 1) (W5.alloc (.cells #[.slice C5 r.length c5] 111)) (.slice N i cN)) (rowC r) (.slice C5 r.length c5) := by
                  have h9 : SlP W5 (fun b => wr.heap.size ≤ b ∧ b < W5.heap.size) 1 C5 r.length (r.map .i) := ⟨_, RdP.of_own o5, CsIsP.ints _ _ _⟩
                  exact CIsP.sl ((SlP.keep h9 fun p hp => hba.cell hp.2).more hap) (own_cap o5)
                have h7 := OwnC.push (apart_below (apart_below HO2.out hbw5) hba) ho7 hg7 hat7 (CsIsP.cons hrv (CsIsP.nil _ _))
                have h8 : OwnC (W7.setCell ⟨cB, 0, none⟩ (.slice N7 (i + 1) cN7)) (cB + 1) 111 1 N7 (i + 1) cN7 ((s.nx.take (i + 1)).map rowC) := by
                  have h9 := h7.far (w' := W7.setCell ⟨cB, 0, none⟩ (.slice N7 (i + 1) cN7)) (by rw [size_set]; exact Nat.le_refl _) fun q hq _ => heap_set_other (p := ⟨cB, 0, none⟩) (by show q ≠ cB; omega)
                  rw [HTK.out]
                  exact h9
                have hb8 : Below cB W3 (W7.setCell ⟨cB, 0, none⟩ (.slice N7 (i + 1) cN7)) := (((HBR.out.trans (hbw5.mono (Nat.le_of_lt hcw))).alloc (by omega) _).grown hg7 (by simp; omega) (fun q hq => by have := (hNl q hq).1; omega)).setCell (p := ⟨cB, 0, none⟩) (Nat.le_refl _) _
                have HB8 := Lib.hid hb8
                have HO8 := Lib.hid h8
                have HC8 := Lib.hid hgc8
                clear hbw5 hba hgc7 hgc8 hNl hap hrv h7 h8 hb8 ho7 hg7 hat7 hHeld b5 o5 o6 y0 ya yf g70 g71 z0 f0 hc7
                generalize W7.setCell ⟨cB, 0, none⟩ (.slice N7 (i + 1) cN7) = W8 at *
                go_wp2
                go_roundw
                case rel => exact ⟨i + 1, cN7, N7, by go_num, by omega, HC8.out, HO8.out, HB8.out⟩
                case measure => simp [intOf]; omega
              exact AllReadyH.nil
            exact AllReadyH.nil
          exact AllReadyH.nil
        exact AllReadyH.nil
      refine AllReadyH.cons rfl (fun K hK => ?_) ?_
      · go_simp
        (go_at_call 119; refine HC.out.mono ?_; rintro e W5 ⟨C5, c5, rfl, o5, b5⟩; have hg5 := Nat.lt_of_lt_of_le hcw b5.size; have y0 := (b5.cell (p := ⟨cB, 0, none⟩) hcw).trans z0; have yf := (b5.frozen (p := ⟨cB, 0, none⟩) hcw).trans f0; have ya := (World.cell?_of_block (a := ⟨cB, 0, none⟩) (Below.heap_alloc W5 (.cells #[.slice C5 r.length c5] 111) cB hg5)).trans y0; have o6 := own_below HO1.out ((Below.drew (Below.refl _ wr)).trans b5) (Nat.le_refl _); have hbs5 : cB + 1 ≤ W5.heap.size := hg5)
        try go_wp2_with fail
        refine hK.out _ _ ?_ (fun hNew => ?_)
        · (try dsimp only)
          all_goals trivial
        clear hK K
        try simp only [Act.put, List.setIfInBounds_toArray, List.set_cons_zero, List.set_cons_succ]
        clear hHeld
        have hHeld := hNew
        clear hNew
        refine wpAnyH_ready (rs := [1, 4]) (by kernel_rfl) (by simp) ?_
        refine AllReadyH.cons rfl (fun K hK => ?_) ?_
        · go_simp
          refine hK.out _ _ ?_ (fun hNew => ?_)
          · (try dsimp only)
            all_goals trivial
          clear hK K
          try simp only [Act.put, List.setIfInBounds_toArray, List.set_cons_zero, List.set_cons_succ]
          clear hHeld
          have hHeld := hNew
          clear hNew
          refine wpAnyH_ready (rs := [4]) (by kernel_rfl) (by simp) ?_
          refine AllReadyH.cons rfl (fun K hK => ?_) ?_
          · go_simp
            refine hK.out _ _ ?_ (fun hNew => ?_)
            · (try dsimp only)
              all_goals trivial
            clear hK K
            try simp only [Act.put, List.setIfInBounds_toArray, List.set_cons_zero, List.set_cons_succ]
            clear hHeld
            have hHeld := hNew
            clear hNew
            refine wpAnyH_ready (rs := [5]) (by kernel_rfl) (by simp) ?_
            refine AllReadyH.cons rfl (fun K hK => ?_) ?_
            · (refine step_push (by rfl) _ _ _ (by rfl) (cB + 1) rowSl N i cN _ (by rfl) (o6.alloc _) W5.heap.size 1 _ (by rfl) (heap_alloc_new W5 _) (by rfl) (by simp [Value.oneCell']) (by unfold maxLen; omega) (by omega) (by simp; omega) ?_; intro N7 cN7 W7 hc7 ho7 hg7 hat7; have g70 := (grown_cell hg7 (a := ⟨cB, 0, none⟩) (by simp; omega) hneg).1.trans ya; have g71 := (grown_cell hg7 (a := ⟨cB, 0, none⟩) (by simp; omega) hneg).2.trans ((World.frozen?_of_block (a := ⟨cB, 0, none⟩) (Below.heap_alloc W5 (.cells #[.slice C5 r.length c5] 111) cB hg5)).trans yf))
              refine hK.out _ _ ?_ (fun hNew => ?_)
              · (try dsimp only)
                all_goals trivial
              clear hK K
              try simp only [Act.put, List.setIfInBounds_toArray]
              clear hHeld
              have hHeld := hNew
              clear hNew
              refine wpAnyH_take (i := 6) (v := ?_) rfl (by kernel_rfl) (by kernel_rfl) (by kernel_rfl) (fun _ _ _ h => h) (Or.inl ⟨by rfl, ?_⟩) (by assumption) ?_
              rotate_left
              · (intro w hSw; (try dsimp only at hSw); go_simp; try with_reducible rfl)
              try simp only [Act.put]
              refine wpAnyH_ready (rs := [7]) (by kernel_rfl) (by simp) ?_
              refine AllReadyH.cons rfl (fun K hK => ?_) ?_
              · go_simp
                refine hK.out _ _ ?_ (fun hNew => ?_)
                · (try dsimp only)
                  all_goals trivial
                clear hK K
                try simp only [Act.put, List.setIfInBounds_toArray, List.set_cons_zero, List.set_cons_succ]
                clear hHeld
                have hHeld := hNew
                clear hNew
                refine wpAnyH_done (by kernel_rfl) ?_ _
                refine NoPanic.normal ?_
                have hbw5 := (Below.drew (Below.refl _ wr)).trans b5
                have hba := (Below.refl _ W5).alloc (Nat.le_refl _) (.cells #[.slice C5 r.length c5] 111)
                have hgc7 := (hg7.block cB (by simp; omega) hneg).trans ((hba.block cB hg5).trans ((hbw5.block cB hcw).trans HGC.out))
                have hgc8 := heap_setCell_same W7 cB 0 _ _ (.slice N7 (i + 1) cN7) hgc7
                rw [show (#[Value.slice N i cN, Value.slice C s.out.length cC].setIfInBounds 0 (.slice N7 (i + 1) cN7)) = #[.slice N7 (i + 1) cN7, .slice C s.out.length cC] from rfl] at hgc8
                have hNl : ∀ q, (Value.slice N i cN).ownBlock = some q → cB < q ∧ q < wr.heap.size := fun q hq => ⟨by have h9 := (HO1.out.lt q hq).1; omega, (HO1.out.lt q hq).2⟩
                have hap : ∀ q, wr.heap.size ≤ q ∧ q < W5.heap.size → Apart (cB + 1) (W5.alloc (.cells #[.slice C5 r.length c5] 111)) (.slice N i cN) q := fun q hq => ⟨by omega, Nat.lt_of_lt_of_le hq.2 hba.size, fun e => by have := (hNl q e).2; omega⟩
                have hrv : CIsP (W5.alloc (.cells #[.slice C5 r.length c5] 111)) (Apart (cB + 1) (W5.alloc (.cells #[.slice C5 r.length c5] 111)) (.slice N i cN)) (rowC r) (.slice C5 r.length c5) := by
                  have h9 : SlP W5 (fun b => wr.heap.size ≤ b ∧ b < W5.heap.size) 1 C5 r.length (r.map .i) := ⟨_, RdP.of_own o5, CsIsP.ints _ _ _⟩
                  exact CIsP.sl ((SlP.keep h9 fun p hp => hba.cell hp.2).more hap) (own_cap o5)
                have h7 := OwnC.push (apart_below (apart_below HO2.out hbw5) hba) ho7 hg7 hat7 (CsIsP.cons hrv (CsIsP.nil _ _))
                have h8 : OwnC (W7.setCell ⟨cB, 0, none⟩ (.slice N7 (i + 1) cN7)) (cB + 1) 111 1 N7 (i + 1) cN7 ((s.nx.take (i + 1)).map rowC) := by
                  have h9 := h7.far (w' := W7.setCell ⟨cB, 0, none⟩ (.slice N7 (i + 1) cN7)) (by rw [size_set]; exact Nat.le_refl _) fun q hq _ => heap_set_other (p := ⟨cB, 0, none⟩) (by show q ≠ cB; omega)
                  rw [HTK.out]
                  exact h9
                have hb8 : Below cB W3 (W7.setCell ⟨cB, 0, none⟩ (.slice N7 (i + 1) cN7)) := (((HBR.out.trans (hbw5.mono (Nat.le_of_lt hcw))).alloc (by omega) _).grown hg7 (by simp; omega) (fun q hq => by have := (hNl q hq).1; omega)).setCell (p := ⟨cB, 0, none⟩) (Nat.le_refl _) _
                have HB8 := Lib.hid hb8
                have HO8 := Lib.hid h8
                have HC8 := Lib.hid hgc8
                clear hbw5 hba hgc7 hgc8 hNl hap hrv h7 h8 hb8 ho7 hg7 hat7 hHeld b5 o5 o6 y0 ya yf g70 g71 z0 f0 hc7
                generalize W7.setCell ⟨cB, 0, none⟩ (.slice N7 (i + 1) cN7) = W8 at *
                go_wp2
                go_roundw
                case rel => exact ⟨i + 1, cN7, N7, by go_num, by omega, HC8.out, HO8.out, HB8.out⟩
                case measure => simp [intOf]; omega
              exact AllReadyH.nil
            exact AllReadyH.nil
          exact AllReadyH.nil
        refine AllReadyH.cons rfl (fun K hK => ?_) ?_
        · go_simp
          refine hK.out _ _ ?_ (fun hNew => ?_)
          · (try dsimp only)
            all_goals trivial
          clear hK K
          try simp only [Act.put, List.setIfInBounds_toArray, List.set_cons_zero, List.set_cons_succ]
          clear hHeld
          have hHeld := hNew
          clear hNew
          refine wpAnyH_ready (rs := [1]) (by kernel_rfl) (by simp) ?_
          refine AllReadyH.cons rfl (fun K hK => ?_) ?_
          · go_simp
            refine hK.out _ _ ?_ (fun hNew => ?_)
            · (try dsimp only)
              all_goals trivial
            clear hK K
            try simp only [Act.put, List.setIfInBounds_toArray, List.set_cons_zero, List.set_cons_succ]
            clear hHeld
            have hHeld := hNew
            clear hNew
            refine wpAnyH_ready (rs := [5]) (by kernel_rfl) (by simp) ?_
            refine AllReadyH.cons rfl (fun K hK => ?_) ?_
            · (refine step_push (by rfl) _ _ _ (by rfl) (cB + 1) rowSl N i cN _ (by rfl) (o6.alloc _) W5.heap.size 1 _ (by rfl) (heap_alloc_new W5 _) (by rfl) (by simp [Value.oneCell']) (by unfold maxLen; omega) (by omega) (by simp; omega) ?_; intro N7 cN7 W7 hc7 ho7 hg7 hat7; have g70 := (grown_cell hg7 (a := ⟨cB, 0, none⟩) (by simp; omega) hneg).1.trans ya; have g71 := (grown_cell hg7 (a := ⟨cB, 0, none⟩) (by simp; omega) hneg).2.trans ((World.frozen?_of_block (a := ⟨cB, 0, none⟩) (Below.heap_alloc W5 (.cells #[.slice C5 r.length c5] 111) cB hg5)).trans yf))
              refine hK.out _ _ ?_ (fun hNew => ?_)
              · (try dsimp only)
                all_goals trivial
              clear hK K
              try simp only [Act.put, List.setIfInBounds_toArray]
              clear hHeld
              have hHeld := hNew
              clear hNew
              refine wpAnyH_take (i := 6) (v := ?_) rfl (by kernel_rfl) (by kernel_rfl) (by kernel_rfl) (fun _ _ _ h => h) (Or.inl ⟨by rfl, ?_⟩) (by assumption) ?_
              rotate_left
              · (intro w hSw; (try dsimp only at hSw); go_simp; try with_reducible rfl)
              try simp only [Act.put]
              refine wpAnyH_ready (rs := [7]) (by kernel_rfl) (by simp) ?_
              refine AllReadyH.cons rfl (fun K hK => ?_) ?_
              · go_simp
                refine hK.out _ _ ?_ (fun hNew => ?_)
                · (try dsimp only)
                  all_goals trivial
                clear hK K
                try simp only [Act.put, List.setIfInBounds_toArray, List.set_cons_zero, List.set_cons_succ]
                clear hHeld
                have hHeld := hNew
                clear hNew
                refine wpAnyH_done (by kernel_rfl) ?_ _
                refine NoPanic.normal ?_
                have hbw5 := (Below.drew (Below.refl _ wr)).trans b5
                have hba := (Below.refl _ W5).alloc (Nat.le_refl _) (.cells #[.slice C5 r.length c5] 111)
                have hgc7 := (hg7.block cB (by simp; omega) hneg).trans ((hba.block cB hg5).trans ((hbw5.block cB hcw).trans HGC.out))
                have hgc8 := heap_setCell_same W7 cB 0 _ _ (.slice N7 (i + 1) cN7) hgc7
                rw [show (#[Value.slice N i cN, Value.slice C s.out.length cC].setIfInBounds 0 (.slice N7 (i + 1) cN7)) = #[.slice N7 (i + 1) cN7, .slice C s.out.length cC] from rfl] at hgc8
                have hNl : ∀ q, (Value.slice N i cN).ownBlock = some q → cB < q ∧ q < wr.heap.size := fun q hq => ⟨by have h9 := (HO1.out.lt q hq).1; omega, (HO1.out.lt q hq).2⟩
                have hap : ∀ q, wr.heap.size ≤ q ∧ q < W5.heap.size → Apart (cB + 1) (W5.alloc (.cells #[.slice C5 r.length c5] 111)) (.slice N i cN) q := fun q hq => ⟨by omega, Nat.lt_of_lt_of_le hq.2 hba.size, fun e => by have := (hNl q e).2; omega⟩
                have hrv : CIsP (W5.alloc (.cells #[.slice C5 r.length c5] 111)) (Apart (cB + 1) (W5.alloc (.cells #[.slice C5 r.length c5] 111)) (.slice N i cN)) (rowC r) (.slice C5 r.length c5) := by
                  have h9 : SlP W5 (fun b => wr.heap.size ≤ b ∧ b < W5.heap.size) 1 C5 r.length (r.map .i) := ⟨_, RdP.of_own o5, CsIsP.ints _ _ _⟩
                  exact CIsP.sl ((SlP.keep h9 fun p hp => hba.cell hp.2).more hap) (own_cap o5)
                have h7 := OwnC.push (apart_below (apart_below HO2.out hbw5) hba) ho7 hg7 hat7 (CsIsP.cons hrv (CsIsP.nil _ _))
                have h8 : OwnC (W7.setCell ⟨cB, 0, none⟩ (.slice N7 (i + 1) cN7)) (cB + 1) 111 1 N7 (i + 1) cN7 ((s.nx.take (i + 1)).map rowC) := by
                  have h9 := h7.far (w' := W7.setCell ⟨cB, 0, none⟩ (.slice N7 (i + 1) cN7)) (by rw [size_set]; exact Nat.le_refl _) fun q hq _ => heap_set_other (p := ⟨cB, 0, none⟩) (by show q ≠ cB; omega)
                  rw [HTK.out]
                  exact h9
                have hb8 : Below cB W3 (W7.setCell ⟨cB, 0, none⟩ (.slice N7 (i + 1) cN7)) := (((HBR.out.trans (hbw5.mono (Nat.le_of_lt hcw))).alloc (by omega) _).grown hg7 (by simp; omega) (fun q hq => by have := (hNl q hq).1; omega)).setCell (p := ⟨cB, 0, none⟩) (Nat.le_refl _) _
                have HB8 := Lib.hid hb8
                have HO8 := Lib.hid h8
                have HC8 := Lib.hid hgc8
                clear hbw5 hba hgc7 hgc8 hNl hap hrv h7 h8 hb8 ho7 hg7 hat7 hHeld b5 o5 o6 y0 ya yf g70 g71 z0 f0 hc7
                generalize W7.setCell ⟨cB, 0, none⟩ (.slice N7 (i + 1) cN7) = W8 at *
                go_wp2
                go_roundw
                case rel => exact ⟨i + 1, cN7, N7, by go_num, by omega, HC8.out, HO8.out, HB8.out⟩
                case measure => simp [intOf]; omega
              exact AllReadyH.nil
            exact AllReadyH.nil
          exact AllReadyH.nil
        exact AllReadyH.nil
      exact AllReadyH.nil
    · obtain rfl : i = s.nx.length := by omega
      have HB9 := Lib.hid (HB3.out.trans (HBR.out.mono (by have := HB3.out.size; have := HS1.out; omega)))
      have hres := (HBR.out.block (w.heap.size + 1) (by have := HS1.out; omega)).trans HX3.out
      have k0 := Lib.cell_of_heap HGC.out 0
      have k1 := Lib.cell_of_heap HGC.out 1
      have y0 := Lib.cell_of_heap hres 0
      have y1 := Lib.cell_of_heap hres 1
      have f0 := Lib.frozen_of_heap hres 0
      have f1 := Lib.frozen_of_heap hres 1
      simp only [List.getElem?_toArray, List.getElem?_cons_zero, List.getElem?_cons_succ] at k0 k1 y0 y1
      have HRES := Lib.hid hres
      have hg0 : GS wr (W1.heap.size) N cN C cC s.nx s.out := GS.of (b2 := cB + 1) (by have := HO.out; rw [List.take_length] at this; exact this) (fown_block HO3.out fun q hq => HBR.out.block q (HCL.out q hq)) (by omega) (fun q hq => by have := HCL.out q hq; omega)
      have HG0 := Lib.hid hg0
      clear hres hg0
      go_wp2
      refine ret_sd rfl rfl rfl (two_stored HRES.out _ _) ⟨N, cN, C, cC, rfl, ?_, (HB9.out.setCell (p := ⟨w.heap.size + 1, 0, none⟩) (by show _ ≤ w.heap.size + 1; omega) _).setCell (p := ⟨w.heap.size + 1, 1, none⟩) (by show _ ≤ w.heap.size + 1; omega) _⟩
      have h9 : GS ((wr.setCell ⟨w.heap.size + 1, 0, none⟩ (.slice N s.nx.length cN)).setCell ⟨w.heap.size + 1, 1, none⟩ (.slice C s.out.length cC)) W1.heap.size N cN C cC s.nx s.out := HG0.out.far (by rw [size_set, size_set]; exact Nat.le_refl _) fun q hq _ => (heap_set_other (p := ⟨w.heap.size + 1, 1, none⟩) (by have := HS1.out; show q ≠ w.heap.size + 1; omega)).trans (heap_set_other (p := ⟨w.heap.size + 1, 0, none⟩) (by have := HS1.out; show q ≠ w.heap.size + 1; omega))
      obtain ⟨⟨xs, g1, g2⟩, g3, g4⟩ := h9
      have hw1 : w.heap.size ≤ W1.heap.size := by have := HS1.out; omega
      exact ⟨⟨xs, own_le g1 hw1, g2.more fun b hb => ⟨Nat.le_trans hw1 hb.1, hb.2⟩⟩, own_le g3 hw1, g4⟩
end Go.Proofs.YtnkelhmjkmeilaaGreatDoor.H
end
