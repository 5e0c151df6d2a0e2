/- parse.Deep of elements, one in another. append(b, s...) in a list of operations. The package build: chars. The package build: end. -/
import Derived.Deep.DrawnRows
import Derived.Deep.LoopGhost
import Derived.Deep.RegionHeld3
import Derived.Deep.RegionLaw
import Derived.WalkSmall
import Derived.Test.YtnkelhmjkmeilaaGreatDoorT08
import Derived.Test.YtnkelhmjkmeilaaGreatDoorT33
import Derived.Test.YtnkelhmjkmeilaaGreatDoorT09
section
namespace Go.Proofs.YtnkelhmjkmeilaaGreatDoor.K
open Go.RowKit
theorem infoPlc : (Tryz.prog.info? 48).map (fun i => (i.zero, i.size, i.bytes)) = some (some (.agg #[.slice none 0 0, .int .i64 0]), 2, 32) := by kernel_rfl
theorem rowPlc : Row Tryz.prog 49 48 2 32 := by
  obtain ⟨i, hi, hz, h1, h2⟩ := info_parts infoPlc
  exact ⟨Tryz.underlying49, ⟨i, _, hi, hz, h1, h2, rfl⟩, by decide⟩
theorem own_lessD {w : World} {base n m c z : Nat} {e : TypeId} {A : Option Addr} {xs : List Value} (h : w.ownsRow base e z (.slice A n c) n xs) (hm : m ≤ n) (hpos : 0 < n) : w.ownsRow base e z (.slice A m c) m (xs.take (m * z)) := by
  obtain ⟨l1, h1⟩ := h
  refine ⟨by rw [List.length_take, l1]; exact Nat.min_eq_left (Nat.mul_le_mul_right _ hm), ?_⟩
  rcases h1 with ⟨h0, _⟩ | ⟨g, cap, cur, hv, hb, hg, hn, hmx, hs, ht⟩
  · injection h0 with _ h0 _; omega
  · injection hv with hv1 _ hv3
    subst hv1 hv3
    refine .inr ⟨g, c, cur, rfl, hb, hg, by omega, hmx, hs, ?_⟩
    rw [← ht, List.take_take, Nat.min_eq_left (Nat.mul_le_mul_right _ hm)]
theorem own_capD {w : World} {base n c z : Nat} {e : TypeId} {A : Option Addr} {xs : List Value} (h : w.ownsRow base e z (.slice A n c) n xs) : n ≤ c ∧ c ≤ 9223372036854775807 := by
  obtain ⟨_, h1⟩ := h
  rcases h1 with ⟨h0, _⟩ | ⟨g, cap, cur, hv, _, _, hn, hmx, _⟩
  · injection h0 with _ h0 h1; omega
  · injection hv with _ _ hv3
    subst hv3
    exact ⟨hn, by unfold maxLen at hmx; omega⟩
theorem two_ofD {w : World} {g : Nat} {v0 v1 : Value} {T : TypeId} (h : w.heap[g]? = some (.cells #[v0, v1] T (0, 0))) : w.cell? ⟨g, 0, none⟩ = some v0 ∧ w.cell? ⟨g, 1, none⟩ = some v1 := by
  have c0 := Lib.cell_of_heap h 0
  have c1 := Lib.cell_of_heap h 1
  simp only [List.getElem?_toArray, List.getElem?_cons_zero, List.getElem?_cons_succ] at c0 c1
  exact ⟨c0, c1⟩
def DeepAt (w wr : World) (nm : List UInt8) (l0 : List Nd) (N d k cV : Nat) (V : Option Addr) : Prop := d ≤ N ∧ ∃ xs, wr.ownsRow w.heap.size 48 2 (.slice V k cV) k xs ∧ Below w.heap.size w wr ∧
  ((k = 0 ∧ d = N) ∨ (k = 1 ∧ ∃ A n c, xs = [.slice A n c, .int .i64 d] ∧ n ≤ c ∧ Nodes w w.heap.size A n (nestL nm (N - d) l0)))
theorem nest_cases (nm : List UInt8) {l0 : List Nd} (h : l0 = [] ∨ ∃ x, l0 = [.mk 2 [] [] x []]) : ∀ m, (nestL nm m l0 = [] ∧ m = 0) ∨ ∃ nd, nestL nm m l0 = [nd] ∧ ((nd.kind = 1 ∧ 0 < m ∧ nd.kids = nestL nm (m - 1) l0) ∨ (nd.kind = 2 ∧ m = 0 ∧ nd.kids = []))
  | 0 => by
    rcases h with rfl | ⟨x, rfl⟩
    · exact .inl ⟨rfl, rfl⟩
    · exact .inr ⟨_, rfl, .inr ⟨rfl, rfl, rfl⟩⟩
  | m + 1 => .inr ⟨_, rfl, .inl ⟨rfl, Nat.succ_pos _, rfl⟩⟩
set_option maxHeartbeats 8000000 in
set_option maxRecDepth 100000 in
theorem Deep_nest {w : World} {A : Option Addr} {n c : Nat} (nm : List UInt8) (l0 : List Nd) (N : Nat) (h0 : l0 = [] ∨ ∃ x, l0 = [.mk 2 [] [] x []]) (hN : N ≤ 100000) (hL : Nodes w w.heap.size A n (nestL nm N l0)) (hc : n ≤ c) :
    Calls Tryz.prog 10 #[.slice A n c] w fun e w' => e = .returned (.int .i64 (N : Int)) ∧ Below w.heap.size w w' := by
  have HL := Lib.hid hL
  have H0 := Lib.hid h0
  clear hL h0
  have b1 := (Below.refl _ w).alloc (Nat.le_refl _) (.cells #[.slice A n c, .int .i64 0] 48)
  have hx1 := heap_alloc_new w (.cells #[.slice A n c, .int .i64 0] 48)
  have ho1 : (w.alloc (.cells #[.slice A n c, .int .i64 0] 48)).ownsRow w.heap.size 48 2 (.slice (some ⟨w.heap.size, 0, none⟩) 1 1) 1 [.slice A n c, .int .i64 0] := ⟨rfl, .inr ⟨w.heap.size, 1, _, rfl, Nat.le_refl _, hx1, Nat.le_refl _, by unfold maxLen; omega, rfl, rfl⟩⟩
  have HS := Lib.hid (show DeepAt w _ nm l0 N 0 1 1 (some ⟨w.heap.size, 0, none⟩) from ⟨Nat.zero_le _, _, ho1, b1, .inr ⟨rfl, A, n, c, rfl, hc, HL.out⟩⟩)
  clear b1 hx1 ho1
  go_enter Tryz.func10, Tryz.ntmps10
  go_wp2_with fail
  go_loopw [3, 4] (fun v3 v4 wr => ∃ (d k cV : Nat) (V : Option Addr), v3 = .int .i64 d ∧ v4 = .slice V k cV ∧ k ≤ 1 ∧ DeepAt w wr nm l0 N d k cV V) (fun v3 v4 _ => (N - (intOf v3).toNat) + (match v4 with | .slice _ k _ => k | _ => 0))
  case atStart => exact ⟨0, 1, 1, _, rfl, rfl, Nat.le_refl _, HS.out⟩
  case round =>
    obtain ⟨d, k, cV, V, rfl, rfl, hk, hd⟩ := hrel
    obtain ⟨wo, rfl⟩ : ∃ wo : World, wo = wr := ⟨_, rfl⟩
    obtain ⟨hdN, xs, ho, hb, hcase⟩ := hd
    rcases hcase with ⟨rfl, rfl⟩ | ⟨rfl, A2, n2, c2, rfl, hn2, hL2⟩
    · clear ho HS
      go_wp2
      go_ret
      exact ⟨rfl, hb⟩
    · obtain ⟨g, cap, hv, hgb, hgl⟩ := ho.form (Nat.succ_pos _)
      obtain rfl : V = some ⟨g, 0, none⟩ := by injection hv
      have hcs := ho.cells (g := g) rfl
      have k0 : wo.cell? ⟨g, 0, none⟩ = some (.slice A2 n2 c2) := by simpa [Addr.add] using hcs 0 _ rfl
      have k1 : wo.cell? ⟨g, 1, none⟩ = some (.int .i64 d) := by simpa [Addr.add] using hcs 1 _ rfl
      have ho0 := own_lessD (m := 0) ho (Nat.zero_le _) (Nat.succ_pos _)
      have hcV := own_capD ho
      have hb2 := hb.alloc hb.size (.cells #[.slice A2 n2 c2, .int .i64 d] 48)
      have hx2 := heap_alloc_new wo (.cells #[.slice A2 n2 c2, .int .i64 d] 48)
      have hz2 := World.size_alloc wo (.cells #[.slice A2 n2 c2, .int .i64 d] 48)
      have ho2 := own_below ho0 ((Below.refl _ wo).alloc (Nat.le_refl _) (.cells #[.slice A2 n2 c2, .int .i64 d] 48)) (Nat.le_refl _)
      have HB2 := Lib.hid hb2
      have HX2 := Lib.hid hx2
      have HO2 := Lib.hid ho2
      have HL2 := Lib.hid hL2
      clear ho hcs ho0 hb hb2 hx2 ho2 hL2 HS hv
      go_upto_region 5 with fail
      generalize wo.alloc _ = W2 at *
      obtain ⟨y0, y1⟩ := two_ofD HX2.out
      go_upto_region 6 with fail
      have hl2 := HL2.out.len
      have hgw : g < W2.heap.size := by omega
      clear hz2
      rcases nest_cases nm H0.out (N - d) with ⟨e0, e1⟩ | ⟨nd, e0, hnd⟩
      · rw [e0] at hl2
        obtain rfl : n2 = 0 := hl2.symm
        obtain rfl : d = N := by omega
        go_wp2_with fail
        refine wp_loop_rounds 1 ?_
        rw [rounds_succ]
        go_wp2
        go_roundw
        case rel => exact ⟨d, 0, cV, _, rfl, rfl, Nat.zero_le _, hdN, _, HO2.out, HB2.out, .inl ⟨rfl, rfl⟩⟩
        case measure => simp [intOf]
      · rw [e0] at hl2
        obtain rfl : n2 = 1 := hl2.symm
        have hat := HL2.out
        rw [e0] at hat
        obtain ⟨a, A1, n1, c1, A3, n3, c3, rfl, hab, t0, _, _, _, t4, _, _, hn3, hkids⟩ := hat.at_ (k := 0) (by omega) (by simp)
        simp only [List.getElem_cons_zero] at t0 hkids
        have u0 := (HB2.out.cell (p := a.add (0 * 5)) (by simpa [Addr.add] using hab)).trans t0
        have u4 := (HB2.out.cell (p := a.add (0 * 5 + 4)) (by simpa [Addr.add] using hab)).trans t4
        have hkl := hkids.len
        have HKI := Lib.hid hkids
        clear t0 t4 hkids hat
        rcases hnd with ⟨g1, g2, g3⟩ | ⟨g1, g2, g3⟩
        · rw [g1] at u0
          have HG3 := Lib.hid g3
          clear g3 g1
          go_wp2_with fail
          refine wp_loop_rounds 2 ?_
          rw [rounds_succ]
          have ea : a.add (0 * 5) = a := by simp [Addr.add]
          have ea4 : a.add (0 * 5 + 4) = ⟨a.block, a.off + 4, none⟩ := by simp [Addr.add]
          rw [ea] at u0
          rw [ea4] at u4
          have hd1 : (d : Int) ≤ 100000 := by omega
          have hd0 : (0 : Int) ≤ (d : Int) := by omega
          go_upto_region 13 with fail
          have hmax : max (d : Int) ((d : Int) + 1) = ((d + 1 : Nat) : Int) := by omega
          have hd2 : ((d : Int) + 1) = ((d + 1 : Nat) : Int) := by omega
          rw [hmax, hd2]
          clear hmax hd2
          have hkc := nest_cases nm H0.out (N - d - 1)
          rw [← HG3.out] at hkc
          have HKC := Lib.hid hkc
          have hd1N : d + 1 ≤ N := by omega
          generalize hdd : d + 1 = dd at *
          have HDD := Lib.hid hdd
          clear hdd hkc
          by_cases hn : n3 = 0
          · subst hn
            go_wp2_with fail
            rw [rounds_succ]
            go_wp2
            go_roundw
            case rel =>
              refine ⟨dd, 0, cV, _, rfl, rfl, Nat.zero_le _, hd1N, _, HO2.out, HB2.out, .inl ⟨rfl, ?_⟩⟩
              have := HDD.out
              rcases HKC.out with ⟨_, h⟩ | ⟨k, h, _⟩
              · omega
              · rw [h] at hkl; cases hkl
            case measure => have := HDD.out; simp [intOf]; omega
          · have hn1 : n3 = 1 := by
              rcases HKC.out with ⟨h, _⟩ | ⟨k, h, _⟩
              · rw [h] at hkl; exact absurd hkl.symm hn
              · rw [h] at hkl; exact hkl.symm
            subst hn1
            have hown := HO2.out
            have hbs := HB2.out.size
            clear hn
            go_wp2_with (at_builtin; go_must (refine wpList_push_at rfl _ _ _ rfl w.heap.size rowPlc (some ⟨g, 0, none⟩) 0 cV _ rfl hown [.slice A3 1 c3, .int .i64 dd] _ rfl rfl (by simp [Value.oneCell']) (by unfold maxLen; omega) (by omega) hbs ?_); intro A7 c7 W7 hc7 ho7 hg7 hat7)
            have hb7 : Below w.heap.size w W7 := HB2.out.grown hg7 hbs (fun k hk => by have e' : some g = some k := hk; injection e' with e'; omega)
            have HO7 := Lib.hid ho7
            have HB7 := Lib.hid hb7
            clear ho7 hg7 hat7 hb7 hown
            rw [rounds_succ]
            go_wp2
            go_roundw
            case rel =>
              refine ⟨dd, 1, c7, A7, rfl, rfl, Nat.le_refl _, hd1N, _, HO7.out, HB7.out, .inr ⟨rfl, A3, 1, c3, rfl, hn3, ?_⟩⟩
              have h9 := HKI.out
              rw [HG3.out] at h9
              have e9 : N - d - 1 = N - dd := by have := HDD.out; omega
              rw [e9] at h9
              exact h9
            case measure => have := HDD.out; simp [intOf]; omega
        · rw [g1] at u0
          rw [g3] at hkl
          obtain rfl : n3 = 0 := hkl.symm
          clear g3 g1
          go_wp2_with fail
          refine wp_loop_rounds 2 ?_
          rw [rounds_succ]
          have ea : a.add (0 * 5) = a := by simp [Addr.add]
          have ea4 : a.add (0 * 5 + 4) = ⟨a.block, a.off + 4, none⟩ := by simp [Addr.add]
          rw [ea] at u0
          rw [ea4] at u4
          have hd1 : (d : Int) ≤ 100000 := by omega
          have hd0 : (0 : Int) ≤ (d : Int) := by omega
          have hmx : max (d : Int) (d : Int) = (d : Int) := by omega
          go_wp2_with fail
          rw [rounds_succ]
          go_wp2
          go_roundw
          case rel => exact ⟨d, 0, cV, _, rfl, rfl, Nat.zero_le _, hdN, _, HO2.out, HB2.out, .inl ⟨rfl, by omega⟩⟩
          case measure => simp [intOf]
end Go.Proofs.YtnkelhmjkmeilaaGreatDoor.K
end
section
namespace Go.Proofs.YtnkelhmjkmeilaaGreatDoor.K
open Go.RowKit
theorem wpList_byte_app {w : World} {ops : Array Oper} {rest : List Oper} {o : Oper} {a : Act} {Q : Exit → Act → World → Prop} (hgd : o.guard = none) (s y : Operand) (ho : o.op = .call { callee := .builtin .append, args := #[s, y], argTypes := #[23, 9] })
    {base : Nat} {v : Value} {l : List UInt8} (hs : a.eval s = v) (h : ByR w base v l) (x : List UInt8) (hy : a.eval y = .string ⟨x.toArray⟩) (hx : l.length + x.length ≤ 1000000000) (hbase : base ≤ w.heap.size)
    (hK : ∀ A' c' w', ByR w' base (.slice A' (l.length + x.length) c') (l ++ x) → w.grownBy w' v.ownBlock → (∀ q, (Value.slice A' (l.length + x.length) c').ownBlock = some q → v.ownBlock = some q ∨ w.heap.size ≤ q) → ByR w' base v l → wpList Tryz.prog ops Q rest (a.put o.dst (.slice A' (l.length + x.length) c')) w') :
    wpList Tryz.prog ops Q (o :: rest) a w := by
  obtain ⟨v', w', hr, h2, h3, h4, h5⟩ := run_byte_app' h x o.type hx hbase
  obtain ⟨A', c', rfl, _⟩ := h2.shape
  rw [List.length_append] at h2 h4 hr
  refine wpList_plain hgd fun K hK' => ?_
  unfold Oper.wp execOp
  simp only [ho, resolve, invoke, builtin, Sem.run_bind, Sem.run_pure, Result.andThen_ok, List.map_toArray, List.map_cons, List.map_nil, hs, hy, hr]
  exact hK' _ _ (hK A' c' w' h2 h3 h4 h5)
end Go.Proofs.YtnkelhmjkmeilaaGreatDoor.K
end
section
namespace Go.Proofs.YtnkelhmjkmeilaaGreatDoor.K
open Go.RowKit Go.Maps Go.WideMaps
attribute [local go_sem ↓] Go.wp_at_zero Go.wp_at_succ
theorem conv_bytes (W : World) {base : Nat} (hb : base ≤ W.heap.size) (l : List UInt8) (hl : l.length ≤ 1000000) : ∃ cap W2, (convert 9 23 (.string ⟨l.toArray⟩)).run Tryz.prog W = .ok (.slice (some ⟨W.heap.size, 0, none⟩) l.length cap) W2 ∧
    ByR W2 base (.slice (some ⟨W.heap.size, 0, none⟩) l.length cap) l ∧ Below W.heap.size W W2 ∧ W2.heap.size = W.heap.size + 1 := by
  refine ⟨_, _, run_bytes_of_string (P := Tryz.prog) W 9 23 5 ⟨l.toArray⟩ Tryz.underlying9 Tryz.underlying23 Tryz.underlying5, ByR.made W hb l (by unfold maxLen; omega) _ rfl, (Below.refl _ W).drew.alloc (Nat.le_refl _) _, ?_⟩
  rw [World.size_alloc]
  rfl
theorem beq_nil_false {l : List UInt8} (h : l ≠ []) : (l == []) = false := by cases l <;> simp_all
set_option maxHeartbeats 2000000 in
set_option maxRecDepth 100000 in
theorem chars_any {w : World} {base bb N : Nat} {z : Zp} (h : BI w base bb N z) (hN : N ≤ 9000) (t : Tk) (A : Option Addr) (c : Nat) (ht : t.text.length ≤ 2000) :
    Calls Tryz.prog 356 #[.pointer (some ⟨bb, 0, none⟩), tkV t A c] w fun e w' => e = .returned (.tuple #[]) ∧ Below base w w' ∧ BI w' base bb (N + 3) (charsZ z t.text) := by
  obtain ⟨own, mm, g, outs, opens, h1, h2⟩ := h
  have hbase := (h1.lt bb _ h1.me)
  have hbs : base ≤ w.heap.size := by omega
  unfold tkV
  generalize t.kind = kd
  generalize t.name = nm
  generalize t.attrs.length = na
  generalize t.text = tx at *
  have hnew := heap_alloc_new w (.cells #[.int .i64 kd, .string ⟨nm.toArray⟩, .slice A na c, .string ⟨tx.toArray⟩] 443)
  have b0 : Below w.heap.size w (w.alloc (.cells #[.int .i64 kd, .string ⟨nm.toArray⟩, .slice A na c, .string ⟨tx.toArray⟩] 443)) := (Below.refl _ w).alloc (Nat.le_refl _) _
  have hM := h1.below b0 (Nat.le_refl _)
  by_cases htx : tx = []
  · subst htx
    go_enter Tryz.func356, Tryz.ntmps356
    go_wp2
    refine bodyPost_ret (results_none rfl _ _ _) rfl ?_
    exact ⟨rfl, b0.mono hbs, own, mm, g, outs, opens, hM.more (by omega), by simpa [charsZ] using h2.more b0.size⟩
  · have HZ := Lib.hid (show charsZ z tx = ⟨z.fr, addText z.last tx⟩ by simp only [charsZ, htx, if_false])
    have hq := beq_nil_false htx
    have s0 : (w.alloc (.cells #[.int .i64 kd, .string ⟨nm.toArray⟩, .slice A na c, .string ⟨tx.toArray⟩] 443)).heap.size = w.heap.size + 1 := World.size_alloc _ _
    go_enter Tryz.func356, Tryz.ntmps356
    go_wp2_with fail
    refine (place_any hM (by omega)).mono ?_
    rintro e W1 ⟨rfl, b1⟩
    have hM1 := hM.below b1 (Nat.le_refl _)
    have hB1 := b0.trans (b1.mono (by omega))
    have hs1 := b1.size
    rw [s0] at hs1
    have hh1 := (b1.block w.heap.size (by omega)).trans hnew
    have ht3 := Lib.cell_of_heap hh1 3
    simp only [List.getElem?_toArray, List.getElem?_cons_zero, List.getElem?_cons_succ] at ht3
    obtain ⟨V, k1, _, k3, _, k5, _, _, _, _⟩ := hM1.place (fun p bs e => (h2.head p bs e).2)
    obtain ⟨AV, cV, rfl, hcV⟩ := own_shape k3
    have HB1 := Lib.hid hB1
    have HM1 := Lib.hid hM1
    clear hM hM1 b0 b1 h1 hnew s0 htx hB1
    generalize plAddr bb opens = pa at *
    have hsep : ∀ (l : List Nd), l = [] ∨ ∃ l' k nm' ats tx' kids, l = l' ++ [.mk k nm' ats tx' kids] := by
      intro l
      rcases List.eq_nil_or_concat l with h | ⟨l', n, h⟩
      · exact .inl h
      · cases n
        exact .inr ⟨l', _, _, _, _, _, by rw [h, List.concat_eq_append]⟩
    obtain ⟨fr, last⟩ := z
    simp only at HZ HM1 h2
    by_cases hend : ∃ l' nm' ats' tx' kids', last = l' ++ [.mk 2 nm' ats' tx' kids']
    · obtain ⟨l', nm', ats', tx', kids', rfl⟩ := hend
      obtain ⟨cl, t', ids, e1, e2, e3⟩ := h2.lastIs
      obtain ⟨A0, n0, c0, TV0, KV0, hr0, _⟩ := (HM1.out.recs t' _ e2).cells
      have hkc := Lib.cell_of_heap hr0 0
      simp only [List.getElem?_toArray, List.getElem?_cons_zero] at hkc
      rw [e1] at k1 k3 k5
      simp only [List.length_append, List.length_cons, List.length_nil, Nat.zero_add] at k1 k3 k5
      obtain ⟨qg, qc, hv, _, _⟩ := k3.form (by omega)
      injection hv with hv1 _ _
      subst hv1
      have hcell := k3.cellAt cl.length (by omega)
      rw [ptrs_append, List.getElem?_append_right (by simp [ptrs]), show cl.length - (ptrs cl).length = 0 by simp [ptrs]] at hcell
      have hcell' : W1.cell? ⟨qg, cl.length, none⟩ = some (.pointer (some ⟨t', 0, none⟩)) := hcell
      obtain ⟨TV, g1, g2, g3, g4, g5, g6, g7, g8⟩ := HM1.out.grow e2 rfl
      simp only at g3 g7 g8
      have HADD := Lib.hid (show addText (l' ++ [Nd.mk 2 nm' ats' tx' kids']) tx = l' ++ [Nd.mk 2 nm' ats' (tx' ++ tx) kids'] by rw [addText_snoc, if_pos rfl])
      have HE3 := Lib.hid e3
      have HB := Lib.hid HB1.out
      have HTK := Lib.hid hh1
      generalize cl.length = ncl at *
      clear hcell hr0 e1 e2 e3 k3 hh1
      have htl : tx'.length + tx.length ≤ 1000000000 := by omega
      have htb : some w.heap.size ≠ TV.ownBlock := fun e => by
        have hp := HM1.out.lt
        have h9 := HTK.out
        rcases g3 with ⟨rfl, _⟩ | ⟨g', cap', cur', fz', rfl, _, hg', _⟩
        · simp [Value.ownBlock] at e
        · simp only [Value.ownBlock, Option.some.injEq] at e
          subst e
          rw [h9] at hg'
          cases hg'
      go_wp2
      go_region_law (refine step_byte_app (by rfl) _ _ (by rfl) (base := base) (by rfl) g3 tx (by rfl) htl (by simp; omega) ?_; intro A5 c5 w5 hby5 hg5 hat5; have gc5 := (grown_cell hg5 (a := ⟨t', 5, none⟩) g5 g4).1.trans g1; have gf5 := (grown_cell hg5 (a := ⟨t', 5, none⟩) g5 g4).2.trans g2)
      all_goals
        go_wp2
        refine bodyPost_ret (results_none rfl _ _ _) rfl ?_
        have hg6 : W1.grownBy w5 TV.ownBlock := ⟨hg5.os, hg5.tape, hg5.output, hg5.size, hg5.block⟩
        obtain ⟨own5, _, m5⟩ := g8 w5 _ tx ht hg6 hby5 hat5
        have B5 : Below base w w5 := (HB.out.mono hbs).trans ((Below.refl _ W1).grown hg6 (by omega) (fun q hq => (g3.lt q hq).1))
        have hz5 := HE3.out tx
        exact ⟨rfl, B5.setCell (p := ⟨t', 5, none⟩) g6 _, own5, mm, _, outs, opens, by rw [HZ.out]; exact m5.more (by omega), by rw [HZ.out, HADD.out]; exact hz5.more (by rw [size_set]; exact B5.size)⟩
    · have hadd : addText last tx = last ++ [.mk 2 [] [] tx []] := by
        rcases hsep last with rfl | ⟨l', k, nm', ats', tx', kids', rfl⟩
        · rfl
        · rw [addText_snoc, if_neg (fun e => hend ⟨l', nm', ats', tx', kids', by rw [e]⟩), List.append_assoc]
          rfl
      have HADD := Lib.hid hadd
      obtain ⟨cap, W2, hcv, hby, b2, s2⟩ := conv_bytes W1 (base := base) (by omega) tx (by omega)
      have b3 := b2.alloc (by omega) (.cells #[.int .i64 2, .string ⟨#[]⟩, .slice none 0 0, .string ⟨#[]⟩, .slice none 0 0, .slice (some ⟨W1.heap.size, 0, none⟩) tx.length cap, .slice none 0 0] 482)
      have hn3 := heap_alloc_new W2 (.cells #[.int .i64 2, .string ⟨#[]⟩, .slice none 0 0, .string ⟨#[]⟩, .slice none 0 0, .slice (some ⟨W1.heap.size, 0, none⟩) tx.length cap, .slice none 0 0] 482)
      rw [s2] at hn3
      have hM3 := (HM1.out.below b3 (Nat.le_refl _)).more (Nat.le_succ N)
      have hby3 : ByR (W2.alloc (.cells #[.int .i64 2, .string ⟨#[]⟩, .slice none 0 0, .string ⟨#[]⟩, .slice none 0 0, .slice (some ⟨W1.heap.size, 0, none⟩) tx.length cap, .slice none 0 0] 482)) base (.slice (some ⟨W1.heap.size, 0, none⟩) tx.length cap) tx :=
        hby.block fun q hq => Below.heap_alloc _ _ _ (hby.lt q hq).2
      obtain ⟨own', _, hM', _⟩ := hM3.new (b := W1.heap.size + 1) (k := 2) (nm := []) (ats := []) (tx := tx) (A := none) (n := 0) (c := 0) (TV := .slice (some ⟨W1.heap.size, 0, none⟩) tx.length cap) (e2 := 0) hn3 (by omega) (own_fresh HM1.out (by omega)) (World.ownsRow_nil _ _ _ _) (fun q hq => by simp [Value.ownBlock] at hq)
        hby3 (fun q hq => by
          simp only [Value.ownBlock, Option.some.injEq] at hq
          subst hq
          exact ⟨own_fresh HM1.out (Nat.le_refl _), by omega, by simp [Value.ownBlock]⟩) (by simp) (by omega) (by simp)
      have HM := Lib.hid hM'
      have HB3 := Lib.hid (HB1.out.trans (b3.mono (by omega)))
      have HZ2 := Lib.hid h2
      have hs2 : w.heap.size ≤ W1.heap.size + 1 := by omega
      clear hM3 hM' hn3 hby hby3 b2 b3 h2 hadd
      rcases hsep last with rfl | ⟨l', k, nm', ats', tx', kids', rfl⟩
      · have hids : plIds g outs opens = [] := by
          have := HZ2.out.2
          simp only [Trs] at this
          exact this.1
        rw [hids] at k1 k3
        simp only [List.length_nil] at k1
        go_wp2_with fail
        refine (add_new HM.out HZ2.out hs2 (by rw [World.size_alloc, s2]; omega) (by omega)).mono ?_
        rintro e W4 ⟨rfl, b4, _, own4, g4, outs4, m4, z4, _⟩
        go_wp2
        go_end0
        exact ⟨rfl, (HB3.out.mono hbs).trans b4, own4, mm, g4, outs4, opens, by rw [HZ.out]; exact m4.more (by omega), by rw [HZ.out, HADD.out]; exact z4⟩
      · have hk2 : ¬ k = 2 := fun e => hend ⟨l', nm', ats', tx', kids', by rw [e]⟩
        have hk2' : (k == 2) = false := beq_eq_false_iff_ne.2 hk2
        obtain ⟨cl, t', ids, e1, e2, _⟩ := HZ2.out.lastIs
        obtain ⟨A0, n0, c0, TV0, KV0, hr0, _⟩ := (HM1.out.recs t' _ e2).cells
        have hkc := Lib.cell_of_heap hr0 0
        simp only [List.getElem?_toArray, List.getElem?_cons_zero] at hkc
        rw [e1] at k1 k3 k5
        simp only [List.length_append, List.length_cons, List.length_nil, Nat.zero_add] at k1 k3 k5
        obtain ⟨qg, qc, hv, _, _⟩ := k3.form (by omega)
        injection hv with hv1 _ _
        subst hv1
        have hcell := k3.cellAt cl.length (by omega)
        rw [ptrs_append, List.getElem?_append_right (by simp [ptrs]), show cl.length - (ptrs cl).length = 0 by simp [ptrs]] at hcell
        have hcell' : W1.cell? ⟨qg, cl.length, none⟩ = some (.pointer (some ⟨t', 0, none⟩)) := hcell
        have HE1 := Lib.hid e1
        have HE2 := Lib.hid e2
        generalize cl.length = ncl at *
        clear hcell hr0 e1 e2 k3 hk2 hend
        go_wp2_with fail
        refine (add_new HM.out HZ2.out hs2 (by rw [World.size_alloc, s2]; omega) (by omega)).mono ?_
        rintro e W4 ⟨rfl, b4, _, own4, g4, outs4, m4, z4, _⟩
        go_wp2
        go_end0
        exact ⟨rfl, (HB3.out.mono hbs).trans b4, own4, mm, g4, outs4, opens, by rw [HZ.out]; exact m4.more (by omega), by rw [HZ.out, HADD.out]; exact z4⟩
end Go.Proofs.YtnkelhmjkmeilaaGreatDoor.K
end
section
namespace Go.Proofs.YtnkelhmjkmeilaaGreatDoor.K
open Go.RowKit Go.Maps Go.WideMaps
attribute [local go_sem ↓] Go.wp_at_zero Go.wp_at_succ
theorem cntN_cons (nm : List UInt8) (k : List Nd) (h : Hd) (fs : Frs) : cntN nm ((k, h) :: fs) = cntN nm fs + if h.1 = nm then 1 else 0 := by
  simp only [cntN, List.countP_cons]
  congr 1
  by_cases e : h.1 = nm <;> simp [e]
theorem cntN_le (nm : List UInt8) (fs : Frs) : cntN nm fs ≤ fs.length := List.countP_le_length
theorem cntF_is (fs : Frs) (nm : List UInt8) : cntF fs (.string ⟨nm.toArray⟩) = if cntN nm fs = 0 then none else some (.int .i64 (cntN nm fs)) := rfl
theorem cntF_top (k : List Nd) (h : Hd) (fs : Frs) : cntF ((k, h) :: fs) (.string ⟨h.1.toArray⟩) = some (.int .i64 ((cntN h.1 fs : Int) + 1)) := by
  rw [cntF_is, cntN_cons, if_pos rfl, if_neg (by omega)]
  rfl
theorem cntF_rest (k : List Nd) (h : Hd) (fs : Frs) (y : Value) (hy : y ≠ .string ⟨h.1.toArray⟩) : cntF fs y = cntF ((k, h) :: fs) y := by
  unfold cntF
  split
  · rename_i s
    have e0 : ¬ h.1 = s.data.toList := fun e => hy (by rw [(show IsStr s h.1 from e.symm).to])
    rw [cntN_cons]
    simp only [e0, if_false, Nat.add_zero]
  · rfl
theorem MI.same {w w' : World} {own : Own} {base bb mm N : Nat} {g : Sto} {outs opens : List Nat} {f : Value → Option Value} (h : MI w own base bb mm N g outs opens f) (hh : w'.heap = w.heap) : MI w' own base bb mm N g outs opens f :=
  h.keep (by rw [hh]; exact Nat.le_refl _) (fun _ _ _ => by rw [hh])
theorem MI.drew {w : World} {own : Own} {base bb mm N : Nat} {g : Sto} {outs opens : List Nat} {f : Value → Option Value} (h : MI w own base bb mm N g outs opens f) : MI w.drew own base bb mm N g outs opens f := h.same rfl
theorem look_cnt {w : World} {b n : Nat} {fs : Frs} (m1 : MapIs Tryz.prog 9 w b n (cntF fs)) (nm : List UInt8) (hl : nm.length ≤ 1000000) :
    (Instr.lookup 169 (.map (some b)) (.string ⟨nm.toArray⟩) false).run Tryz.prog w = .ok (.int .i64 (cntN nm fs)) w := by
  have hkey : keyOf Tryz.prog 9 (.string ⟨nm.toArray⟩) = some (.string nm) := keyOf_string_mk Tryz.underlying9 (by unfold maxLen; show nm.toArray.size ≤ _; simp; omega)
  have hz : ∀ w, (zeroValue 3).run Tryz.prog w = .ok (.int .i64 0) w := fun w => by kernel_rfl
  have := m1.look keyS Tryz.underlying169 (hz _) hkey false
  rw [this, cntF_is]
  by_cases h0 : cntN nm fs = 0
  · rw [if_pos h0, h0]; rfl
  · rw [if_neg h0]; rfl
theorem shut_z {w : World} {own : Own} {base bb mm N : Nat} {g : Sto} {outs opens : List Nat} {k : List Nd} {h : Hd} {fs : Frs} {l : List Nd} {hi : Nat} (hM : MI w own base bb mm N g outs opens (cntF ((k, h) :: fs))) (hZ : ZR g outs opens hi ⟨(k, h) :: fs, l⟩) (hN : N ≤ 10000) :
    ∃ bs, Calls Tryz.prog 358 #[.pointer (some ⟨bb, 0, none⟩)] w fun e w' => e = .returned (.string ⟨h.1.toArray⟩) ∧ Below base w w' ∧ Frm own w w' ∧ MI w' own base bb mm N g outs bs (cntF fs) ∧ ZR g outs bs hi ⟨fs, k ++ [elemN h l]⟩ := by
  have hlen := hZ.1.len
  cases opens with
  | nil => simp at hlen
  | cons b bs =>
    have h0 := hZ.1
    simp only [Sp] at h0
    obtain ⟨⟨ids, e1⟩, _⟩ := h0
    have hc := cntN_le h.1 fs
    have hp := hM.fewP
    simp only [List.length_cons] at hlen hp
    refine ⟨bs, (shut_any hM e1 hN (c := cntN h.1 fs) (by omega) (cntF_top k h fs) (cntF_is fs h.1) (fun y hy => cntF_rest k h fs y hy)).mono ?_⟩
    rintro e w' ⟨rfl, h2, f2, h3⟩
    exact ⟨rfl, h2, f2, h3, hZ.shut⟩
set_option maxHeartbeats 2000000 in
set_option maxRecDepth 100000 in
theorem end_any {w : World} {base bb N : Nat} {z : Zp} (h : BI w base bb N z) (hN : N ≤ 9000) (t : Tk) (A : Option Addr) (c : Nat) (ht : t.name.length ≤ 1000) :
    Calls Tryz.prog 355 #[.pointer (some ⟨bb, 0, none⟩), tkV t A c] w fun e w' => e = .returned (.tuple #[]) ∧ Below base w w' ∧ BI w' base bb (N + 3) (endZ z t.name) := by
  obtain ⟨own, mm, g, outs, opens, h1, h2⟩ := h
  have hbase := (h1.lt bb _ h1.me)
  have hbs : base ≤ w.heap.size := by omega
  unfold tkV
  generalize t.kind = kd
  generalize t.name = nm at *
  generalize t.attrs.length = na
  generalize t.text = tx at *
  have hnew := heap_alloc_new w (.cells #[.int .i64 kd, .string ⟨nm.toArray⟩, .slice A na c, .string ⟨tx.toArray⟩] 443)
  have b0 : Below w.heap.size w (w.alloc (.cells #[.int .i64 kd, .string ⟨nm.toArray⟩, .slice A na c, .string ⟨tx.toArray⟩] 443)) := (Below.refl _ w).alloc (Nat.le_refl _) _
  have hM := h1.below b0 (Nat.le_refl _)
  have hZ := h2.more b0.size
  obtain ⟨n0, m0⟩ := hM.map
  have hl := look_cnt (m0.drew) nm (by omega)
  have hcl := cntN_le nm z.fr
  have hzl := h2.1.len
  have hzp := h1.fewP
  have hcb : cntN nm z.fr ≤ 10000 := by omega
  obtain ⟨OV, PV, hb, _⟩ := hM.blk
  have k2 := Lib.cell_of_heap hb 2
  simp only [List.getElem?_toArray, List.getElem?_cons_zero, List.getElem?_cons_succ] at k2
  have HB := Lib.hid b0
  have HH := Lib.hid hnew
  have HM := Lib.hid hM
  have HO := Lib.hid (own_fresh h1 (Nat.le_refl w.heap.size))
  have HCN := Lib.hid (show ∃ c, cntN nm z.fr = c from ⟨_, rfl⟩)
  obtain ⟨cn, hcn⟩ := HCN.out
  rw [hcn] at hl hcb
  have HC := Lib.hid hcn
  clear hcn hcl hzl hzp hb h1 h2 hM b0 m0 HCN
  by_cases h0 : cn = 0
  · subst h0
    go_enter Tryz.func355, Tryz.ntmps355
    go_wp2
    go_region
    all_goals
      go_wp2
      refine bodyPost_ret (results_none rfl _ _ _) rfl ?_
      rw [show endZ z nm = z by simp only [endZ, HC.out, if_true]]
      exact ⟨rfl, (HB.out.mono hbs).drew, own, mm, g, outs, opens, HM.out.drew.more (by omega), hZ⟩
  · have hq : ((cn : Int) == 0) = false := by rw [beq_eq_false_iff_ne]; omega
    have HQ := Lib.hid h0
    go_enter Tryz.func355, Tryz.ntmps355
    go_wp2
    go_region
    all_goals
      go_wp2
      go_loopg [] (z.fr.length) (fun gk wr => ∃ bs fs l, gk = fs.length ∧ MI wr own base bb mm N g outs bs (cntF fs) ∧ ZR g outs bs wr.heap.size ⟨fs, l⟩ ∧ 0 < cntN nm fs ∧ Hid (popTo nm fs l = popTo nm z.fr z.last) ∧ Below base w wr ∧ wr.heap[w.heap.size]? = some (.cells #[.int .i64 kd, .string ⟨nm.toArray⟩, .slice A na c, .string ⟨tx.toArray⟩] 443 (0, 0)) ∧ w.heap.size < wr.heap.size)
      case atStart =>
        exact ⟨opens, z.fr, z.last, rfl, HM.out.drew, hZ, by rw [HC.out]; omega, rfl, (HB.out.mono hbs).drew, hnew, by simp⟩
      case round =>
        obtain ⟨bs, fs, l, rfl, hM, hZr, hcn, hpop, hbw, htk, hws⟩ := hrel
        clear hnew hl k2 hZ h0 hq
        cases fs with
        | nil => simp [cntN] at hcn
        | cons f fs =>
          obtain ⟨k, h⟩ := f
          obtain ⟨bs', hcall⟩ := shut_z hM.drew hZr (by omega)
          have hfr : own w.heap.size = none := HO.out
          have ht1 := Lib.cell_of_heap htk 1
          simp only [List.getElem?_toArray, List.getElem?_cons_zero, List.getElem?_cons_succ] at ht1
          have HZR := Lib.hid hZr
          have HCN := Lib.hid hcn
          have HTK := Lib.hid htk
          clear hZr hcn hM htk
          by_cases hh : h.1 = nm
          · have hq : (h.1 == nm) = true := by simp [hh]
            have HH := Lib.hid hh
            clear hh
            go_wp2
            go_region_with (first
              | (go_at_call 358; refine hcall.mono ?_; rintro e W2 ⟨rfl, B2, F2, M2, Z2⟩; have ht2 := Lib.cell_of_heap ((F2 w.heap.size hfr hws).trans HTK.out) 1; simp only [List.getElem?_toArray, List.getElem?_cons_zero, List.getElem?_cons_succ] at ht2))
            all_goals
              have hBW := (hbw.drew).trans B2
              clear ht2 ht1
              go_wp2
              go_end0
              refine ⟨rfl, hBW, own, mm, g, outs, bs', ?_⟩
              have hend : endZ z nm = ⟨fs, k ++ [elemN h l]⟩ := by
                have hp := hpop.out
                simp only [popTo, HH.out, if_true] at hp
                simp only [endZ, HC.out, HQ.out, if_false]
                exact hp.symm
              rw [hend]
              exact ⟨M2.more (by omega), Z2.more B2.size⟩
          · have hq : (h.1 == nm) = false := by simp [hh]
            have HH := Lib.hid hh
            clear hh
            go_wp2
            go_region_with (first
              | (go_at_call 358; refine hcall.mono ?_; rintro e W2 ⟨rfl, B2, F2, M2, Z2⟩; have HT2 := Lib.hid ((F2 w.heap.size hfr hws).trans HTK.out); have ht2 := Lib.cell_of_heap HT2.out 1; simp only [List.getElem?_toArray, List.getElem?_cons_zero, List.getElem?_cons_succ] at ht2))
            all_goals
              have hBW := (hbw.drew).trans B2
              have hs2 := B2.size
              have hS : w.heap.size < W2.heap.size := Nat.lt_of_lt_of_le hws hs2
              clear ht2 ht1
              go_wp2
              go_roundg (fs.length)
              case measure => simp
              case rel =>
                refine ⟨bs', fs, k ++ [elemN h l], rfl, M2, Z2.more hs2, ?_, ?_, hBW, HT2.out, hS⟩
                · have := HCN.out
                  rw [cntN_cons, if_neg HH.out] at this
                  omega
                · have hp := hpop.out
                  simp only [popTo, HH.out, if_false] at hp
                  exact hp
end Go.Proofs.YtnkelhmjkmeilaaGreatDoor.K
end
