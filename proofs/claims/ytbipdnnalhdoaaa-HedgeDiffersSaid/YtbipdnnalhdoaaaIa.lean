/- And. -/
import Derived.Test.YtbipdnnalhdoaaaHY
import Derived.Test.YtbipdnnalhdoaaaHZ
import Derived.Test.YtbipdnnalhdoaaaHB
namespace Go.Proofs.Ytbipdnnalhdoaaa
open Go.RowKit Go.Maps Go.WideMaps
attribute [local go_sem ↓] Go.wp_at_zero Go.wp_at_succ

/-- one side more -/
theorem and_step {W0 wo W5 W7 : World} {B0 base nB i cL cN7 c5 d5 : Nat} {L N7 N5 O5 : Option Addr} {xs : List Value} {cs : List Cl} {sd : Sd} {v0 v2 v3 : Value} (hx : wo.heap[nB]? = some (.cells #[v0, .slice L i cL, v2, v3] 28 (0, 0))) (o1 : wo.ownsRow base 26 2 (.slice L i cL) i xs) (o2 : CsIsP wo (Apart base wo (.slice L i cL)) cs xs)
    (b5 : Below wo.heap.size wo W5) (g5 : SdV W5 (fun b => wo.heap.size ≤ b ∧ b < W5.heap.size) sd N5 c5 O5 d5)
    (ho7 : W7.ownsRow base 26 2 (.slice N7 (i + 1) cN7) (i + 1) (xs ++ [.slice N5 sd.nx.length c5, .slice O5 sd.out.length d5])) (hg7 : (W5.alloc (.cells #[.slice N5 sd.nx.length c5, .slice O5 sd.out.length d5] 26)).grownBy W7 (Value.slice L i cL).ownBlock)
    (hat7 : ∀ g, (Value.slice N7 (i + 1) cN7).ownBlock = some g → (Value.slice L i cL).ownBlock = some g ∨ (W5.alloc (.cells #[.slice N5 sd.nx.length c5, .slice O5 sd.out.length d5] 26)).heap.size ≤ g)
    (hnb : nB < base) (hbs : base ≤ wo.heap.size) (hB0 : Below B0 W0 wo) (hnb0 : B0 ≤ nB) :
    (W7.setCell ⟨nB, 1, none⟩ (.slice N7 (i + 1) cN7)).heap[nB]? = some (.cells #[v0, .slice N7 (i + 1) cN7, v2, v3] 28 (0, 0)) ∧ OwnC (W7.setCell ⟨nB, 1, none⟩ (.slice N7 (i + 1) cN7)) base 26 2 N7 (i + 1) cN7 (cs ++ sdC sd) ∧
      (∀ q, q < base → q ≠ nB → (W7.setCell ⟨nB, 1, none⟩ (.slice N7 (i + 1) cN7)).heap[q]? = wo.heap[q]?) ∧ base ≤ (W7.setCell ⟨nB, 1, none⟩ (.slice N7 (i + 1) cN7)).heap.size ∧ Below B0 W0 (W7.setCell ⟨nB, 1, none⟩ (.slice N7 (i + 1) cN7)) := by
  have hal := World.size_alloc W5 (.cells #[.slice N5 sd.nx.length c5, .slice O5 sd.out.length d5] 26)
  have hba := (Below.refl _ W5).alloc (Nat.le_refl _) (.cells #[.slice N5 sd.nx.length c5, .slice O5 sd.out.length d5] 26)
  have hs5 := b5.size
  have hNl : ∀ q, (Value.slice L i cL).ownBlock = some q → base ≤ q ∧ q < wo.heap.size := fun q hq => o1.lt q hq
  have hneg : ∀ q, q < base → some q ≠ (Value.slice L i cL).ownBlock := fun q hq e => by have := (hNl q e.symm).1; omega
  have hgc7 := (hg7.block nB (by omega) (hneg nB hnb)).trans ((hba.block nB (by omega)).trans ((b5.block nB (by omega)).trans hx))
  have hgc8 := heap_setCell_same W7 nB 1 _ _ (.slice N7 (i + 1) cN7) hgc7
  rw [show (#[v0, .slice L i cL, v2, v3].setIfInBounds 1 (.slice N7 (i + 1) cN7)) = #[v0, .slice N7 (i + 1) cN7, v2, v3] from rfl] at hgc8
  have hap : ∀ q, wo.heap.size ≤ q ∧ q < W5.heap.size → Apart base (W5.alloc (.cells #[.slice N5 sd.nx.length c5, .slice O5 sd.out.length d5] 26)) (.slice L i cL) q := fun q hq => ⟨by omega, by rw [hal]; omega, fun e => by have := (hNl q e).2; omega⟩
  have h7 := OwnC.push (apart_below (apart_below o2 b5) hba) ho7 hg7 hat7 (show CsIsP _ _ (sdC sd) [.slice N5 sd.nx.length c5, .slice O5 sd.out.length d5] from
    CsIsP.cons (CIsP.sl ((SlP.keep g5.nx fun p hp => hba.cell hp.2).more hap) g5.le1) (CsIsP.cons (CIsP.sl ((SlP.keep g5.out fun p hp => hba.cell hp.2).more hap) g5.le2) (CsIsP.nil _ _)))
  have hs7 := hg7.size
  refine ⟨hgc8, h7.far (by rw [size_set]; exact Nat.le_refl _) fun q hq _ => heap_set_other (p := ⟨nB, 1, none⟩) (by show q ≠ nB; omega), fun q hq hq2 => ?_, by rw [size_set]; omega, ?_⟩
  · exact (heap_set_other (p := ⟨nB, 1, none⟩) hq2).trans ((hg7.block q (by omega) (hneg q hq)).trans ((hba.block q (by omega)).trans (b5.block q (by omega))))
  · have hw0 := hB0.size
    have hb5 : Below B0 W0 W5 := ⟨b5.os.trans hB0.os, b5.tape.trans hB0.tape, b5.output.trans hB0.output, by omega, fun k hk => (b5.block k (by omega)).trans (hB0.block k hk)⟩
    exact ((hb5.alloc (by omega) _).grown hg7 (by omega) (fun q hq => by have := (hNl q hq).1; omega)).setCell (p := ⟨nB, 1, none⟩) hnb0 _

/-- what And tells -/
def AndRet (w : World) (H : Hd) (e : Ending) (w' : World) : Prop := ∃ A c B c1 C c2, e = .returned (.tuple #[hdVal H A c B c1 C c2, .int .i64 0]) ∧ HdV w' (fun b => w.heap.size ≤ b ∧ b < w'.heap.size) H A c B c1 C c2 ∧ Below w.heap.size w w'
/-- the cells of two automata -/
theorem ghc {w' : World} {b0 b1 : Nat} {T : TypeId} {a0 a1 a2 a3 c0 c1 c2 c3 : Value} (h0 : w'.heap[b0]? = some (.cells #[a0, a1, a2, a3] T (0, 0))) (h1 : w'.heap[b1]? = some (.cells #[c0, c1, c2, c3] T (0, 0))) :
    w'.cell? ⟨b0, 0, none⟩ = some a0 ∧ w'.cell? ⟨b0, 1, none⟩ = some a1 ∧ w'.cell? ⟨b0, 2, none⟩ = some a2 ∧ w'.cell? ⟨b0, 3, none⟩ = some a3 ∧ w'.cell? ⟨b1, 0, none⟩ = some c0 ∧ w'.cell? ⟨b1, 1, none⟩ = some c1 ∧ w'.cell? ⟨b1, 2, none⟩ = some c2 ∧ w'.cell? ⟨b1, 3, none⟩ = some c3 :=
  ⟨Lib.cell_of_heap h0 0, Lib.cell_of_heap h0 1, Lib.cell_of_heap h0 2, Lib.cell_of_heap h0 3, Lib.cell_of_heap h1 0, Lib.cell_of_heap h1 1, Lib.cell_of_heap h1 2, Lib.cell_of_heap h1 3⟩
/-- the result, an automaton, in a cell block; and a number -/
theorem ret_and {f : Func} {p u : Tmp} (h : f.results = #[.cell p 28, .tmp u]) {a : Act} {w : World} {g : Nat} {v0 v1 v2 v3 x : Value} {R : Ending → World → Prop} (hp : a.tmps.getD p undef = .pointer (some ⟨g, 0, none⟩)) (hx : a.tmps.getD u undef = x) (hd : a.defers = [])
    (hg : w.heap[g]? = some (.cells #[v0, v1, v2, v3] 28 (0, 0))) (hR : R (.returned (.tuple #[.agg #[v0, v1, v2, v3], x])) w) : bodyPost Try.prog f R .ret a w := by
  have hc := fun j => Lib.cell_of_heap hg j
  have c0 := hc 0
  have c1 := hc 1
  have c2 := hc 2
  have c3 := hc 3
  simp only [List.getElem?_toArray, List.getElem?_cons_zero, List.getElem?_cons_succ] at c0 c1 c2 c3
  refine bodyPost_ret (v := .tuple #[.agg #[v0, v1, v2, v3], x]) ?_ hd hR
  rw [results_cell_tmp h, hp, hx]
  go_simp
set_option maxHeartbeats 8000000 in
set_option maxRecDepth 100000 in
theorem And_any {w : World} {g h : Hd} {A B C A' B' C' : Option Addr} {c c1 c2 d d1 d2 : Nat} (H : HdV w (fun b => b < w.heap.size) g A c B c1 C c2) (H' : HdV w (fun b => b < w.heap.size) h A' d B' d1 C' d2) (hO : HdOk g 4) (hO' : HdOk h 4) (hL : g.labs.length = h.labs.length) :
    Calls Try.prog 27 #[hdVal g A c B c1 C c2, hdVal h A' d B' d1 C' d2] w (AndRet w (andH g h)) := by
  have HLL := Lib.hid hL
  have he0 : ((g.labs.length : Int) == (h.labs.length : Int)) = true := by rw [hL]; simp
  have he1 : ((g.labs.length : Int) != (h.labs.length : Int)) = false := by rw [hL]; simp
  clear hL
  obtain ⟨W1, hW1⟩ : ∃ W1, W1 = ((w.alloc (.cells #[.int .i64 g.K, .slice A g.labs.length c, .slice B g.root.nx.length c1, .slice C g.root.out.length c2] 28)).alloc (.cells #[.int .i64 h.K, .slice A' h.labs.length d, .slice B' h.root.nx.length d1, .slice C' h.root.out.length d2] 28)).alloc (.cells #[.int .i64 0, .slice none 0 0, .slice none 0 0, .slice none 0 0] 28) := ⟨_, rfl⟩
  have h3 := al3 w #[.int .i64 g.K, .slice A g.labs.length c, .slice B g.root.nx.length c1, .slice C g.root.out.length c2] #[.int .i64 h.K, .slice A' h.labs.length d, .slice B' h.root.nx.length d1, .slice C' h.root.out.length d2] #[.int .i64 0, .slice none 0 0, .slice none 0 0, .slice none 0 0] 28 28 28
  rw [← hW1] at h3
  have HX1 := Lib.hid h3
  have HW1 := Lib.hid hW1
  have hLb := hO.fewL
  have hLb' := hO'.fewL
  clear h3 hW1
  go_enter Try.func27, Try.ntmps27
  go_upto_region 1 with fail
  rw [← HW1.out]
  obtain ⟨hx0, hx1, hx2, hB1⟩ := HX1.out
  have hl0 := (Array.getElem?_eq_some_iff.1 hx0).1
  have hl1 := (Array.getElem?_eq_some_iff.1 hx1).1
  have hl2 := (Array.getElem?_eq_some_iff.1 hx2).1
  obtain ⟨x0, x1, x2, x3, y0, y1, y2, y3⟩ := ghc hx0 hx1
  have HB := Lib.hid hB1
  have HV := Lib.hid (H.on hB1)
  have HV' := Lib.hid (H'.on hB1)
  clear hB1 hx0 hx1 hx2 H H'
  have HS := Lib.hid (sound_any HV.out)
  go_wp2_with fail
  refine HS.out.mono ?_
  rintro e W2 ⟨b, rfl, hb, b2⟩
  obtain rfl : b = true := hb.2 hO.sound
  have HB2 := Lib.hid (HB.out.trans (b2.mono HB.out.size))
  have HV2 := Lib.hid (HV.out.on b2)
  have HV2' := Lib.hid (HV'.out.on b2)
  have HX2 := Lib.hid (And.intro ((b2.block _ hl0).trans HX1.out.1) (And.intro ((b2.block _ hl1).trans HX1.out.2.1) ((b2.block _ hl2).trans HX1.out.2.2.1)))
  obtain ⟨x0, x1, x2, x3, y0, y1, y2, y3⟩ := ghc HX2.out.1 HX2.out.2.1
  have hm0 := Nat.lt_of_lt_of_le hl0 b2.size
  have hm1 := Nat.lt_of_lt_of_le hl1 b2.size
  have hm2 := Nat.lt_of_lt_of_le hl2 b2.size
  clear hb b2 HS
  have HS := Lib.hid (sound_any HV2'.out)
  go_wp2_with fail
  refine HS.out.mono ?_
  rintro e W3 ⟨b, rfl, hb, b3⟩
  obtain rfl : b = true := hb.2 hO'.sound
  have HB3 := Lib.hid (HB2.out.trans (b3.mono HB2.out.size))
  have HV3 := Lib.hid (HV2.out.on b3)
  have HV3' := Lib.hid (HV2'.out.on b3)
  have HX3 := Lib.hid (And.intro ((b3.block _ hm0).trans HX2.out.1) (And.intro ((b3.block _ hm1).trans HX2.out.2.1) ((b3.block _ hm2).trans HX2.out.2.2)))
  obtain ⟨x0, x1, x2, x3, y0, y1, y2, y3⟩ := ghc HX3.out.1 HX3.out.2.1
  have hn0 := Nat.lt_of_lt_of_le hm0 b3.size
  have hn1 := Nat.lt_of_lt_of_le hm1 b3.size
  have hn2 := Nat.lt_of_lt_of_le hm2 b3.size
  obtain ⟨Kp, hKp⟩ : ∃ Kp, Kp = g.K.toNat * h.K.toNat := ⟨_, rfl⟩
  have hKI : g.K * h.K = (Kp : Int) := by
    have e1 : ((g.K.toNat : Nat) : Int) = g.K := Int.toNat_of_nonneg (by have := hO.K1; omega)
    have e2 : ((h.K.toNat : Nat) : Int) = h.K := Int.toNat_of_nonneg (by have := hO'.K1; omega)
    rw [hKp, Int.natCast_mul, e1, e2]
  have hKb : Kp ≤ 16 := by rw [hKp]; exact Nat.mul_le_mul (show g.K.toNat ≤ 4 by have := hO.fewK; omega) (show h.K.toNat ≤ 4 by have := hO'.fewK; omega)
  have hKw : IntKind.i64.wrap (Kp : Int) = (Kp : Int) := IntWalk.i64_in _ (by omega)
  have HKP := Lib.hid hKp
  clear hKp hb b3 HS
  have hal := (Below.refl _ W3).alloc (Nat.le_refl _) (.cells #[.int .i64 (Kp : Int), .slice none 0 0, .slice none 0 0, .slice none 0 0] 28)
  have hxa := heap_alloc_new W3 (.cells #[.int .i64 (Kp : Int), .slice none 0 0, .slice none 0 0, .slice none 0 0] 28)
  go_upto_region 4 with fail
  have hs4 := World.size_alloc W3 (.cells #[.int .i64 (Kp : Int), .slice none 0 0, .slice none 0 0, .slice none 0 0] 28)
  generalize W3.alloc (.cells #[.int .i64 (Kp : Int), .slice none 0 0, .slice none 0 0, .slice none 0 0] 28) = W4 at *
  obtain ⟨nB, hnB⟩ : ∃ nB, nB = W3.heap.size := ⟨_, rfl⟩
  rw [← hnB] at hxa ⊢
  have hnb4 : nB < W4.heap.size := by omega
  have hnb5 : W4.heap.size ≤ nB + 1 := by omega
  have HNB := Lib.hid hnB
  have hne0 : w.heap.size ≠ nB := by omega
  have hne1 : w.heap.size + 1 ≠ nB := by omega
  have hne2 : w.heap.size + 1 + 1 ≠ nB := by omega
  have HX4 := Lib.hid (And.intro ((hal.block _ hn0).trans HX3.out.1) (And.intro ((hal.block _ hn1).trans HX3.out.2.1) ((hal.block _ hn2).trans HX3.out.2.2)))
  have HXA := Lib.hid hxa
  have HB4 := Lib.hid hal
  obtain ⟨x0, x1, x2, x3, y0, y1, y2, y3⟩ := ghc HX4.out.1 HX4.out.2.1
  have hw00 : w.heap.size < W4.heap.size := Nat.lt_of_lt_of_le hn0 hal.size
  have hw11 : w.heap.size + 1 < W4.heap.size := Nat.lt_of_lt_of_le hn1 hal.size
  have hw22 : w.heap.size + 1 + 1 < W4.heap.size := Nat.lt_of_lt_of_le hn2 hal.size
  clear hnB hxa hal hs4 hn0 hn1 hn2 hm0 hm1 hm2 hl0 hl1 hl2
  go_wp2
  go_loopw [35] (fun iv wr => ∃ (i cL : Nat) (L : Option Addr), iv = .int .i64 i ∧ i ≤ g.labs.length ∧ wr.heap[nB]? = some (.cells #[.int .i64 (Kp : Int), .slice L i cL, .slice none 0 0, .slice none 0 0] 28 (0, 0)) ∧ OwnC wr W4.heap.size 26 2 L i cL (((andH g h).labs.take i).flatMap sdC) ∧
    Hid (∀ q, q < W4.heap.size → q ≠ nB → wr.heap[q]? = W4.heap[q]?) ∧ W4.heap.size ≤ wr.heap.size ∧ Below W3.heap.size W3 wr) (fun iv _ => g.labs.length - (intOf iv).toNat)
  case atStart => exact ⟨0, 0, none, rfl, Nat.zero_le _, HXA.out, OwnC.nil _ _ _ _, Lib.hid (fun _ _ _ => rfl), Nat.le_refl _, HB4.out⟩
  case round =>
    obtain ⟨i, cL, L, rfl, hi, hgc, hOL, hfar, hsz, hbr⟩ := hrel
    obtain ⟨wo, rfl⟩ : ∃ wo : World, wo = wr := ⟨_, rfl⟩
    have X0 := (hfar.out _ hw00 hne0).trans HX4.out.1
    have X1 := (hfar.out _ hw11 hne1).trans HX4.out.2.1
    have hw0 : w.heap.size < wo.heap.size := Nat.lt_of_lt_of_le hw00 hsz
    have hw1 : w.heap.size + 1 < wo.heap.size := Nat.lt_of_lt_of_le hw11 hsz
    have hw2 : nB < wo.heap.size := Nat.lt_of_lt_of_le hnb4 hsz
    have HGC := Lib.hid hgc
    have HO := Lib.hid hOL
    have HBR := Lib.hid hbr
    clear hbr
    by_cases hlt : i < g.labs.length
    · have hbd : Below W3.heap.size W3 wo.drew := Below.drew HBR.out
      have hlm : (andH g h).labs.length = g.labs.length := and_labs
      have hTK : ((andH g h).labs.take (i + 1)).flatMap sdC = ((andH g h).labs.take i).flatMap sdC ++ sdC ((andH g h).side i) := by
        have hlt' : i < (andH g h).labs.length := by rw [hlm]; exact hlt
        rw [List.take_succ_eq_append_getElem hlt', List.flatMap_append, List.flatMap_cons, List.flatMap_nil, List.append_nil]
        have h9 := Hd.side_lt hlt'
        rw [List.getElem?_eq_getElem hlt'] at h9
        injection h9 with h9
        rw [h9]
      have HTK := Lib.hid hTK
      have HC := Lib.hid (both_any (HV3.out.on hbd) (HV3'.out.on hbd) hO hO' (by decide) (by decide) HLL.out (Nat.le_of_lt hlt))
      generalize (andH g h).side i = sd at *
      have hiI : (i : Int) < (g.labs.length : Int) := by omega
      have hi0 : (0 : Int) ≤ (i : Int) := by omega
      obtain ⟨xs, o1, o2⟩ := hOL
      have HO1 := Lib.hid o1
      have HO2 := Lib.hid o2
      have hneg0 : some w.heap.size ≠ (Value.slice L i cL).ownBlock := fun e => by have := (o1.lt _ e.symm).1; omega
      have hneg1 : some (w.heap.size + 1) ≠ (Value.slice L i cL).ownBlock := fun e => by have := (o1.lt _ e.symm).1; omega
      have hneg2 : some nB ≠ (Value.slice L i cL).ownBlock := fun e => by have := (o1.lt _ e.symm).1; omega
      have z1 := Lib.cell_of_heap hgc 1
      have f1 := Lib.frozen_of_heap hgc 1
      simp only [List.getElem?_toArray, List.getElem?_cons_zero, List.getElem?_cons_succ] at z1
      clear hTK hlm hbd o1 o2 hgc
      go_upto_region 7 with fail
      refine wp_region_noPanic ?_
      refine wp_region_held_drew (S := (fun w' => w'.cell? ⟨w.heap.size, 0, none⟩ = some (.int .i64 g.K) ∧ w'.cell? ⟨w.heap.size, 1, none⟩ = some (.slice A g.labs.length c) ∧ w'.cell? ⟨w.heap.size, 2, none⟩ = some (.slice B g.root.nx.length c1) ∧ w'.cell? ⟨w.heap.size, 3, none⟩ = some (.slice C g.root.out.length c2) ∧ w'.cell? ⟨w.heap.size + 1, 0, none⟩ = some (.int .i64 h.K) ∧ w'.cell? ⟨w.heap.size + 1, 1, none⟩ = some (.slice A' h.labs.length d) ∧ w'.cell? ⟨w.heap.size + 1, 2, none⟩ = some (.slice B' h.root.nx.length d1) ∧ w'.cell? ⟨w.heap.size + 1, 3, none⟩ = some (.slice C' h.root.out.length d2))) (by kernel_rfl) ?_ (fun hHeld => ?_)
      · (try dsimp only)
        (first | exact ghc X0 X1 | exact ghc A0 A1 | exact ghc ((Below.heap_alloc W5 _ _ hq0).trans A0) ((Below.heap_alloc W5 _ _ hq1).trans A1) | exact ghc C0 C1 | exact ghc ((heap_set_other (p := ⟨nB, 1, none⟩) hne0).trans C0) ((heap_set_other (p := ⟨nB, 1, none⟩) hne1).trans C1) | go_keep)
      refine wpAnyH_take (i := 0) (v := ?_) rfl (by kernel_rfl) (by kernel_rfl) (by kernel_rfl) (fun _ _ _ h => h) (Or.inl ⟨by rfl, ?_⟩) (by assumption) ?_
      rotate_left
      · (intro w hSw; (try dsimp only at hSw); go_simp; try with_reducible rfl)
      try simp only [Act.put, List.setIfInBounds_toArray, List.set_cons_zero, List.set_cons_succ]
      refine wpAnyH_take (i := 2) (v := ?_) rfl (by kernel_rfl) (by kernel_rfl) (by kernel_rfl) (fun _ _ _ h => h) (Or.inl ⟨by rfl, ?_⟩) (by assumption) ?_
      rotate_left
      · (intro w hSw; (try dsimp only at hSw); go_simp; try with_reducible rfl)
      try simp only [Act.put, List.setIfInBounds_toArray, List.set_cons_zero, List.set_cons_succ]
      refine wpAnyH_take (i := 3) (v := ?_) rfl (by kernel_rfl) (by kernel_rfl) (by kernel_rfl) (fun _ _ _ h => h) (Or.inl ⟨by rfl, ?_⟩) (by assumption) ?_
      rotate_left
      · (intro w hSw; (try dsimp only at hSw); go_simp; try with_reducible rfl)
      try simp only [Act.put, List.setIfInBounds_toArray, List.set_cons_zero, List.set_cons_succ]
      refine wpAnyH_take (i := 4) (v := ?_) rfl (by kernel_rfl) (by kernel_rfl) (by kernel_rfl) (fun _ _ _ h => h) (Or.inl ⟨by rfl, ?_⟩) (by assumption) ?_
      rotate_left
      · (intro w hSw; (try dsimp only at hSw); go_simp; try with_reducible rfl)
      try simp only [Act.put, List.setIfInBounds_toArray, List.set_cons_zero, List.set_cons_succ]
      refine wpAnyH_ready (rs := [1, 5]) (by kernel_rfl) (by simp) ?_
      refine AllReadyH.cons rfl (fun K hK => ?_) ?_
      · go_simp
        refine hK.out _ _ ?_ (fun hNew => ?_)
        · (try dsimp only)
          (first | exact ghc X0 X1 | exact ghc A0 A1 | exact ghc ((Below.heap_alloc W5 _ _ hq0).trans A0) ((Below.heap_alloc W5 _ _ hq1).trans A1) | exact ghc C0 C1 | exact ghc ((heap_set_other (p := ⟨nB, 1, none⟩) hne0).trans C0) ((heap_set_other (p := ⟨nB, 1, none⟩) hne1).trans C1) | go_keep)
        clear hK K
        try simp only [Act.put, List.setIfInBounds_toArray, List.set_cons_zero, List.set_cons_succ]
        clear hHeld
        have hHeld := hNew
        clear hNew
        refine wpAnyH_ready (rs := [5]) (by kernel_rfl) (by simp) ?_
        refine AllReadyH.cons rfl (fun K hK => ?_) ?_
        · go_simp
          (go_at_call 41; refine HC.out.mono ?_; rintro e W5 ⟨N5, c5, O5, d5, rfl, g5, b5⟩; have bw5 : Below wo.heap.size wo W5 := (Below.drew (Below.refl _ wo)).trans b5; have hq0 : w.heap.size < W5.heap.size := Nat.lt_of_lt_of_le hw0 b5.size; have hq1 : w.heap.size + 1 < W5.heap.size := Nat.lt_of_lt_of_le hw1 b5.size; have hq2 : nB < W5.heap.size := Nat.lt_of_lt_of_le hw2 b5.size; have A0 := (bw5.block _ hw0).trans X0; have A1 := (bw5.block _ hw1).trans X1; have v1 := (bw5.cell (p := ⟨nB, 1, none⟩) hw2).trans z1; have vf := (bw5.frozen (p := ⟨nB, 1, none⟩) hw2).trans f1; have va := (World.cell?_of_block (a := ⟨nB, 1, none⟩) (Below.heap_alloc W5 (.cells #[.slice N5 sd.nx.length c5, .slice O5 sd.out.length d5] 26) nB hq2)).trans v1; have o5 := own_below HO1.out bw5 (Nat.le_refl _); have hbs5 : W4.heap.size ≤ W5.heap.size := Nat.le_trans hsz b5.size)
          try go_wp2_with fail
          refine hK.out _ _ ?_ (fun hNew => ?_)
          · (try dsimp only)
            (first | exact ghc X0 X1 | exact ghc A0 A1 | exact ghc ((Below.heap_alloc W5 _ _ hq0).trans A0) ((Below.heap_alloc W5 _ _ hq1).trans A1) | exact ghc C0 C1 | exact ghc ((heap_set_other (p := ⟨nB, 1, none⟩) hne0).trans C0) ((heap_set_other (p := ⟨nB, 1, none⟩) hne1).trans C1) | go_keep)
          clear hK K
          try simp only [Act.put, List.setIfInBounds_toArray, List.set_cons_zero, List.set_cons_succ]
          clear hHeld
          have hHeld := hNew
          clear hNew
          refine wpAnyH_ready (rs := [6]) (by kernel_rfl) (by simp) ?_
          refine AllReadyH.cons rfl (fun K hK => ?_) ?_
          · go_simp
            refine hK.out _ _ ?_ (fun hNew => ?_)
            · (try dsimp only)
              (first | exact ghc X0 X1 | exact ghc A0 A1 | exact ghc ((Below.heap_alloc W5 _ _ hq0).trans A0) ((Below.heap_alloc W5 _ _ hq1).trans A1) | exact ghc C0 C1 | exact ghc ((heap_set_other (p := ⟨nB, 1, none⟩) hne0).trans C0) ((heap_set_other (p := ⟨nB, 1, none⟩) hne1).trans C1) | go_keep)
            clear hK K
            try simp only [Act.put, List.setIfInBounds_toArray, List.set_cons_zero, List.set_cons_succ]
            clear hHeld
            have hHeld := hNew
            clear hNew
            refine wpAnyH_ready (rs := [7]) (by kernel_rfl) (by simp) ?_
            refine AllReadyH.cons rfl (fun K hK => ?_) ?_
            · (refine step_push (by rfl) _ _ _ (by rfl) W4.heap.size rowSd L i cL _ (by rfl) (o5.alloc _) W5.heap.size 1 _ (by rfl) (heap_alloc_new W5 _) (by rfl) (by simp [Value.oneCell']) (by unfold maxLen; omega) (by omega) (by simp; omega) ?_; intro N7 cN7 W7 hc7 ho7 hg7 hat7; have g70 := (grown_cell hg7 (a := ⟨nB, 1, none⟩) (by simp; omega) hneg2).1.trans va; have g71 := (grown_cell hg7 (a := ⟨nB, 1, none⟩) (by simp; omega) hneg2).2.trans ((World.frozen?_of_block (a := ⟨nB, 1, none⟩) (Below.heap_alloc W5 (.cells #[.slice N5 sd.nx.length c5, .slice O5 sd.out.length d5] 26) nB hq2)).trans vf); have C0 := (hg7.block w.heap.size (by simp; omega) hneg0).trans ((Below.heap_alloc W5 _ _ hq0).trans A0); have C1 := (hg7.block (w.heap.size + 1) (by simp; omega) hneg1).trans ((Below.heap_alloc W5 _ _ hq1).trans A1))
              refine hK.out _ _ ?_ (fun hNew => ?_)
              · (try dsimp only)
                (first | exact ghc X0 X1 | exact ghc A0 A1 | exact ghc ((Below.heap_alloc W5 _ _ hq0).trans A0) ((Below.heap_alloc W5 _ _ hq1).trans A1) | exact ghc C0 C1 | exact ghc ((heap_set_other (p := ⟨nB, 1, none⟩) hne0).trans C0) ((heap_set_other (p := ⟨nB, 1, none⟩) hne1).trans C1) | go_keep)
              clear hK K
              try simp only [Act.put, List.setIfInBounds_toArray, List.set_cons_zero, List.set_cons_succ]
              clear hHeld
              have hHeld := hNew
              clear hNew
              refine wpAnyH_take (i := 8) (v := ?_) rfl (by kernel_rfl) (by kernel_rfl) (by kernel_rfl) (fun _ _ _ h => h) (Or.inl ⟨by rfl, ?_⟩) (by assumption) ?_
              rotate_left
              · (intro w hSw; (try dsimp only at hSw); go_simp; try with_reducible rfl)
              try simp only [Act.put, List.setIfInBounds_toArray, List.set_cons_zero, List.set_cons_succ]
              refine wpAnyH_ready (rs := [9]) (by kernel_rfl) (by simp) ?_
              refine AllReadyH.cons rfl (fun K hK => ?_) ?_
              · go_simp
                refine hK.out _ _ ?_ (fun hNew => ?_)
                · (try dsimp only)
                  (first | exact ghc X0 X1 | exact ghc A0 A1 | exact ghc ((Below.heap_alloc W5 _ _ hq0).trans A0) ((Below.heap_alloc W5 _ _ hq1).trans A1) | exact ghc C0 C1 | exact ghc ((heap_set_other (p := ⟨nB, 1, none⟩) hne0).trans C0) ((heap_set_other (p := ⟨nB, 1, none⟩) hne1).trans C1) | go_keep)
                clear hK K
                try simp only [Act.put, List.setIfInBounds_toArray, List.set_cons_zero, List.set_cons_succ]
                clear hHeld
                have hHeld := hNew
                clear hNew
                refine wpAnyH_done (by kernel_rfl) ?_ _
                refine NoPanic.normal ?_
                have HST := Lib.hid (and_step (B0 := W3.heap.size) (W0 := W3) HGC.out HO1.out HO2.out bw5 g5 ho7 hg7 hat7 hnb4 hsz HBR.out (Nat.le_of_eq HNB.out.symm))
                clear hHeld b5 g5 o5 v1 vf va g70 g71 A0 A1 C0 C1 bw5 ho7 hg7 hat7 hc7 X0 X1 z1 f1
                generalize W7.setCell ⟨nB, 1, none⟩ (.slice N7 (i + 1) cN7) = W8 at *
                go_wp2
                go_roundw
                case rel => exact ⟨i + 1, cN7, N7, by go_num, by omega, HST.out.1, by rw [HTK.out]; exact HST.out.2.1, Lib.hid (fun q hq hq2 => (HST.out.2.2.1 q hq hq2).trans (hfar.out q hq hq2)), HST.out.2.2.2.1, HST.out.2.2.2.2⟩
                case measure => simp [intOf]; omega
              exact AllReadyH.nil
            exact AllReadyH.nil
          exact AllReadyH.nil
        exact AllReadyH.nil
      refine AllReadyH.cons rfl (fun K hK => ?_) ?_
      · go_simp
        (go_at_call 41; refine HC.out.mono ?_; rintro e W5 ⟨N5, c5, O5, d5, rfl, g5, b5⟩; have bw5 : Below wo.heap.size wo W5 := (Below.drew (Below.refl _ wo)).trans b5; have hq0 : w.heap.size < W5.heap.size := Nat.lt_of_lt_of_le hw0 b5.size; have hq1 : w.heap.size + 1 < W5.heap.size := Nat.lt_of_lt_of_le hw1 b5.size; have hq2 : nB < W5.heap.size := Nat.lt_of_lt_of_le hw2 b5.size; have A0 := (bw5.block _ hw0).trans X0; have A1 := (bw5.block _ hw1).trans X1; have v1 := (bw5.cell (p := ⟨nB, 1, none⟩) hw2).trans z1; have vf := (bw5.frozen (p := ⟨nB, 1, none⟩) hw2).trans f1; have va := (World.cell?_of_block (a := ⟨nB, 1, none⟩) (Below.heap_alloc W5 (.cells #[.slice N5 sd.nx.length c5, .slice O5 sd.out.length d5] 26) nB hq2)).trans v1; have o5 := own_below HO1.out bw5 (Nat.le_refl _); have hbs5 : W4.heap.size ≤ W5.heap.size := Nat.le_trans hsz b5.size)
        try go_wp2_with fail
        refine hK.out _ _ ?_ (fun hNew => ?_)
        · (try dsimp only)
          (first | exact ghc X0 X1 | exact ghc A0 A1 | exact ghc ((Below.heap_alloc W5 _ _ hq0).trans A0) ((Below.heap_alloc W5 _ _ hq1).trans A1) | exact ghc C0 C1 | exact ghc ((heap_set_other (p := ⟨nB, 1, none⟩) hne0).trans C0) ((heap_set_other (p := ⟨nB, 1, none⟩) hne1).trans C1) | go_keep)
        clear hK K
        try simp only [Act.put, List.setIfInBounds_toArray, List.set_cons_zero, List.set_cons_succ]
        clear hHeld
        have hHeld := hNew
        clear hNew
        refine wpAnyH_ready (rs := [1, 6]) (by kernel_rfl) (by simp) ?_
        refine AllReadyH.cons rfl (fun K hK => ?_) ?_
        · go_simp
          refine hK.out _ _ ?_ (fun hNew => ?_)
          · (try dsimp only)
            (first | exact ghc X0 X1 | exact ghc A0 A1 | exact ghc ((Below.heap_alloc W5 _ _ hq0).trans A0) ((Below.heap_alloc W5 _ _ hq1).trans A1) | exact ghc C0 C1 | exact ghc ((heap_set_other (p := ⟨nB, 1, none⟩) hne0).trans C0) ((heap_set_other (p := ⟨nB, 1, none⟩) hne1).trans C1) | go_keep)
          clear hK K
          try simp only [Act.put, List.setIfInBounds_toArray, List.set_cons_zero, List.set_cons_succ]
          clear hHeld
          have hHeld := hNew
          clear hNew
          refine wpAnyH_ready (rs := [6]) (by kernel_rfl) (by simp) ?_
          refine AllReadyH.cons rfl (fun K hK => ?_) ?_
          · go_simp
            refine hK.out _ _ ?_ (fun hNew => ?_)
            · (try dsimp only)
              (first | exact ghc X0 X1 | exact ghc A0 A1 | exact ghc ((Below.heap_alloc W5 _ _ hq0).trans A0) ((Below.heap_alloc W5 _ _ hq1).trans A1) | exact ghc C0 C1 | exact ghc ((heap_set_other (p := ⟨nB, 1, none⟩) hne0).trans C0) ((heap_set_other (p := ⟨nB, 1, none⟩) hne1).trans C1) | go_keep)
            clear hK K
            try simp only [Act.put, List.setIfInBounds_toArray, List.set_cons_zero, List.set_cons_succ]
            clear hHeld
            have hHeld := hNew
            clear hNew
            refine wpAnyH_ready (rs := [7]) (by kernel_rfl) (by simp) ?_
            refine AllReadyH.cons rfl (fun K hK => ?_) ?_
            · (refine step_push (by rfl) _ _ _ (by rfl) W4.heap.size rowSd L i cL _ (by rfl) (o5.alloc _) W5.heap.size 1 _ (by rfl) (heap_alloc_new W5 _) (by rfl) (by simp [Value.oneCell']) (by unfold maxLen; omega) (by omega) (by simp; omega) ?_; intro N7 cN7 W7 hc7 ho7 hg7 hat7; have g70 := (grown_cell hg7 (a := ⟨nB, 1, none⟩) (by simp; omega) hneg2).1.trans va; have g71 := (grown_cell hg7 (a := ⟨nB, 1, none⟩) (by simp; omega) hneg2).2.trans ((World.frozen?_of_block (a := ⟨nB, 1, none⟩) (Below.heap_alloc W5 (.cells #[.slice N5 sd.nx.length c5, .slice O5 sd.out.length d5] 26) nB hq2)).trans vf); have C0 := (hg7.block w.heap.size (by simp; omega) hneg0).trans ((Below.heap_alloc W5 _ _ hq0).trans A0); have C1 := (hg7.block (w.heap.size + 1) (by simp; omega) hneg1).trans ((Below.heap_alloc W5 _ _ hq1).trans A1))
              refine hK.out _ _ ?_ (fun hNew => ?_)
              · (try dsimp only)
                (first | exact ghc X0 X1 | exact ghc A0 A1 | exact ghc ((Below.heap_alloc W5 _ _ hq0).trans A0) ((Below.heap_alloc W5 _ _ hq1).trans A1) | exact ghc C0 C1 | exact ghc ((heap_set_other (p := ⟨nB, 1, none⟩) hne0).trans C0) ((heap_set_other (p := ⟨nB, 1, none⟩) hne1).trans C1) | go_keep)
              clear hK K
              try simp only [Act.put, List.setIfInBounds_toArray, List.set_cons_zero, List.set_cons_succ]
              clear hHeld
              have hHeld := hNew
              clear hNew
              refine wpAnyH_take (i := 8) (v := ?_) rfl (by kernel_rfl) (by kernel_rfl) (by kernel_rfl) (fun _ _ _ h => h) (Or.inl ⟨by rfl, ?_⟩) (by assumption) ?_
              rotate_left
              · (intro w hSw; (try dsimp only at hSw); go_simp; try with_reducible rfl)
              try simp only [Act.put, List.setIfInBounds_toArray, List.set_cons_zero, List.set_cons_succ]
              refine wpAnyH_ready (rs := [9]) (by kernel_rfl) (by simp) ?_
              refine AllReadyH.cons rfl (fun K hK => ?_) ?_
              · go_simp
                refine hK.out _ _ ?_ (fun hNew => ?_)
                · (try dsimp only)
                  (first | exact ghc X0 X1 | exact ghc A0 A1 | exact ghc ((Below.heap_alloc W5 _ _ hq0).trans A0) ((Below.heap_alloc W5 _ _ hq1).trans A1) | exact ghc C0 C1 | exact ghc ((heap_set_other (p := ⟨nB, 1, none⟩) hne0).trans C0) ((heap_set_other (p := ⟨nB, 1, none⟩) hne1).trans C1) | go_keep)
                clear hK K
                try simp only [Act.put, List.setIfInBounds_toArray, List.set_cons_zero, List.set_cons_succ]
                clear hHeld
                have hHeld := hNew
                clear hNew
                refine wpAnyH_done (by kernel_rfl) ?_ _
                refine NoPanic.normal ?_
                have HST := Lib.hid (and_step (B0 := W3.heap.size) (W0 := W3) HGC.out HO1.out HO2.out bw5 g5 ho7 hg7 hat7 hnb4 hsz HBR.out (Nat.le_of_eq HNB.out.symm))
                clear hHeld b5 g5 o5 v1 vf va g70 g71 A0 A1 C0 C1 bw5 ho7 hg7 hat7 hc7 X0 X1 z1 f1
                generalize W7.setCell ⟨nB, 1, none⟩ (.slice N7 (i + 1) cN7) = W8 at *
                go_wp2
                go_roundw
                case rel => exact ⟨i + 1, cN7, N7, by go_num, by omega, HST.out.1, by rw [HTK.out]; exact HST.out.2.1, Lib.hid (fun q hq hq2 => (HST.out.2.2.1 q hq hq2).trans (hfar.out q hq hq2)), HST.out.2.2.2.1, HST.out.2.2.2.2⟩
                case measure => simp [intOf]; omega
              exact AllReadyH.nil
            exact AllReadyH.nil
          exact AllReadyH.nil
        refine AllReadyH.cons rfl (fun K hK => ?_) ?_
        · go_simp
          refine hK.out _ _ ?_ (fun hNew => ?_)
          · (try dsimp only)
            (first | exact ghc X0 X1 | exact ghc A0 A1 | exact ghc ((Below.heap_alloc W5 _ _ hq0).trans A0) ((Below.heap_alloc W5 _ _ hq1).trans A1) | exact ghc C0 C1 | exact ghc ((heap_set_other (p := ⟨nB, 1, none⟩) hne0).trans C0) ((heap_set_other (p := ⟨nB, 1, none⟩) hne1).trans C1) | go_keep)
          clear hK K
          try simp only [Act.put, List.setIfInBounds_toArray, List.set_cons_zero, List.set_cons_succ]
          clear hHeld
          have hHeld := hNew
          clear hNew
          refine wpAnyH_ready (rs := [1]) (by kernel_rfl) (by simp) ?_
          refine AllReadyH.cons rfl (fun K hK => ?_) ?_
          · go_simp
            refine hK.out _ _ ?_ (fun hNew => ?_)
            · (try dsimp only)
              (first | exact ghc X0 X1 | exact ghc A0 A1 | exact ghc ((Below.heap_alloc W5 _ _ hq0).trans A0) ((Below.heap_alloc W5 _ _ hq1).trans A1) | exact ghc C0 C1 | exact ghc ((heap_set_other (p := ⟨nB, 1, none⟩) hne0).trans C0) ((heap_set_other (p := ⟨nB, 1, none⟩) hne1).trans C1) | go_keep)
            clear hK K
            try simp only [Act.put, List.setIfInBounds_toArray, List.set_cons_zero, List.set_cons_succ]
            clear hHeld
            have hHeld := hNew
            clear hNew
            refine wpAnyH_ready (rs := [7]) (by kernel_rfl) (by simp) ?_
            refine AllReadyH.cons rfl (fun K hK => ?_) ?_
            · (refine step_push (by rfl) _ _ _ (by rfl) W4.heap.size rowSd L i cL _ (by rfl) (o5.alloc _) W5.heap.size 1 _ (by rfl) (heap_alloc_new W5 _) (by rfl) (by simp [Value.oneCell']) (by unfold maxLen; omega) (by omega) (by simp; omega) ?_; intro N7 cN7 W7 hc7 ho7 hg7 hat7; have g70 := (grown_cell hg7 (a := ⟨nB, 1, none⟩) (by simp; omega) hneg2).1.trans va; have g71 := (grown_cell hg7 (a := ⟨nB, 1, none⟩) (by simp; omega) hneg2).2.trans ((World.frozen?_of_block (a := ⟨nB, 1, none⟩) (Below.heap_alloc W5 (.cells #[.slice N5 sd.nx.length c5, .slice O5 sd.out.length d5] 26) nB hq2)).trans vf); have C0 := (hg7.block w.heap.size (by simp; omega) hneg0).trans ((Below.heap_alloc W5 _ _ hq0).trans A0); have C1 := (hg7.block (w.heap.size + 1) (by simp; omega) hneg1).trans ((Below.heap_alloc W5 _ _ hq1).trans A1))
              refine hK.out _ _ ?_ (fun hNew => ?_)
              · (try dsimp only)
                (first | exact ghc X0 X1 | exact ghc A0 A1 | exact ghc ((Below.heap_alloc W5 _ _ hq0).trans A0) ((Below.heap_alloc W5 _ _ hq1).trans A1) | exact ghc C0 C1 | exact ghc ((heap_set_other (p := ⟨nB, 1, none⟩) hne0).trans C0) ((heap_set_other (p := ⟨nB, 1, none⟩) hne1).trans C1) | go_keep)
              clear hK K
              try simp only [Act.put, List.setIfInBounds_toArray, List.set_cons_zero, List.set_cons_succ]
              clear hHeld
              have hHeld := hNew
              clear hNew
              refine wpAnyH_take (i := 8) (v := ?_) rfl (by kernel_rfl) (by kernel_rfl) (by kernel_rfl) (fun _ _ _ h => h) (Or.inl ⟨by rfl, ?_⟩) (by assumption) ?_
              rotate_left
              · (intro w hSw; (try dsimp only at hSw); go_simp; try with_reducible rfl)
              try simp only [Act.put, List.setIfInBounds_toArray, List.set_cons_zero, List.set_cons_succ]
              refine wpAnyH_ready (rs := [9]) (by kernel_rfl) (by simp) ?_
              refine AllReadyH.cons rfl (fun K hK => ?_) ?_
              · go_simp
                refine hK.out _ _ ?_ (fun hNew => ?_)
                · (try dsimp only)
                  (first | exact ghc X0 X1 | exact ghc A0 A1 | exact ghc ((Below.heap_alloc W5 _ _ hq0).trans A0) ((Below.heap_alloc W5 _ _ hq1).trans A1) | exact ghc C0 C1 | exact ghc ((heap_set_other (p := ⟨nB, 1, none⟩) hne0).trans C0) ((heap_set_other (p := ⟨nB, 1, none⟩) hne1).trans C1) | go_keep)
                clear hK K
                try simp only [Act.put, List.setIfInBounds_toArray, List.set_cons_zero, List.set_cons_succ]
                clear hHeld
                have hHeld := hNew
                clear hNew
                refine wpAnyH_done (by kernel_rfl) ?_ _
                refine NoPanic.normal ?_
                have HST := Lib.hid (and_step (B0 := W3.heap.size) (W0 := W3) HGC.out HO1.out HO2.out bw5 g5 ho7 hg7 hat7 hnb4 hsz HBR.out (Nat.le_of_eq HNB.out.symm))
                clear hHeld b5 g5 o5 v1 vf va g70 g71 A0 A1 C0 C1 bw5 ho7 hg7 hat7 hc7 X0 X1 z1 f1
                generalize W7.setCell ⟨nB, 1, none⟩ (.slice N7 (i + 1) cN7) = W8 at *
                go_wp2
                go_roundw
                case rel => exact ⟨i + 1, cN7, N7, by go_num, by omega, HST.out.1, by rw [HTK.out]; exact HST.out.2.1, Lib.hid (fun q hq hq2 => (HST.out.2.2.1 q hq hq2).trans (hfar.out q hq hq2)), HST.out.2.2.2.1, HST.out.2.2.2.2⟩
                case measure => simp [intOf]; omega
              exact AllReadyH.nil
            exact AllReadyH.nil
          exact AllReadyH.nil
        exact AllReadyH.nil
      exact AllReadyH.nil
    · obtain rfl : g.labs.length = i := by omega
      obtain ⟨x0, x1, x2, x3, y0, y1, y2, y3⟩ := ghc X0 X1
      have hw3 : w.heap.size + 1 + 1 < wo.heap.size := Nat.lt_of_lt_of_le hw22 hsz
      have X2 := (hfar.out _ hw22 hne2).trans HX4.out.2.2
      have hrt : (andH g h).side g.labs.length = (andH g h).root := Hd.side_ge (by rw [and_labs]; exact Nat.le_refl _)
      have hC := both_any (HV3.out.on HBR.out) (HV3'.out.on HBR.out) hO hO' (by decide) (by decide) HLL.out (Nat.le_refl _)
      rw [hrt] at hC
      have HC := Lib.hid hC
      clear hrt hC
      go_wp2_with fail
      refine HC.out.mono ?_
      rintro e W5 ⟨N5, c5, O5, d5, rfl, g5, b5⟩
      have A0 := (b5.block _ hw2).trans hgc
      have A2 := (b5.block _ hw3).trans X2
      have k0 := Lib.cell_of_heap A0 0
      have k1 := Lib.cell_of_heap A0 1
      have k2 := Lib.cell_of_heap A0 2
      have k3 := Lib.cell_of_heap A0 3
      have fk2 := Lib.frozen_of_heap A0 2
      have fk3 := Lib.frozen_of_heap A0 3
      have l0 := Lib.cell_of_heap A2 0
      have l1 := Lib.cell_of_heap A2 1
      have l2 := Lib.cell_of_heap A2 2
      have l3 := Lib.cell_of_heap A2 3
      have fl0 := Lib.frozen_of_heap A2 0
      have fl1 := Lib.frozen_of_heap A2 1
      have fl2 := Lib.frozen_of_heap A2 2
      have fl3 := Lib.frozen_of_heap A2 3
      simp only [List.getElem?_toArray, List.getElem?_cons_zero, List.getElem?_cons_succ] at k0 k1 k2 k3 l0 l1 l2 l3
      have hne3 := Ne.symm hne2
      obtain ⟨W7, hW7⟩ : ∃ W7, W7 = (W5.setCell ⟨nB, 2, none⟩ (.slice N5 (andH g h).root.nx.length c5)).setCell ⟨nB, 3, none⟩ (.slice O5 (andH g h).root.out.length d5) := ⟨_, rfl⟩
      have hA27 : W7.heap[w.heap.size + 1 + 1]? = some (.cells #[.int .i64 0, .slice none 0 0, .slice none 0 0, .slice none 0 0] 28 (0, 0)) := by
        rw [hW7, heap_set_other (p := ⟨nB, 3, none⟩) hne2, heap_set_other (p := ⟨nB, 2, none⟩) hne2]
        exact A2
      have hfs := four_stored hA27 (.int .i64 (Kp : Int)) (.slice L g.labs.length cL) (.slice N5 (andH g h).root.nx.length c5) (.slice O5 (andH g h).root.out.length d5)
      rw [hW7] at hfs
      have HFS := Lib.hid hfs
      have HRET := Lib.hid (show AndRet w (andH g h) (.returned (.tuple #[.agg #[.int .i64 (Kp : Int), .slice L g.labs.length cL, .slice N5 (andH g h).root.nx.length c5, .slice O5 (andH g h).root.out.length d5], .int .i64 0])) ((((((W5.setCell ⟨nB, 2, none⟩ (.slice N5 (andH g h).root.nx.length c5)).setCell ⟨nB, 3, none⟩ (.slice O5 (andH g h).root.out.length d5)).setCell ⟨w.heap.size + 1 + 1, 0, none⟩ (.int .i64 (Kp : Int))).setCell ⟨w.heap.size + 1 + 1, 1, none⟩ (.slice L g.labs.length cL)).setCell ⟨w.heap.size + 1 + 1, 2, none⟩ (.slice N5 (andH g h).root.nx.length c5)).setCell ⟨w.heap.size + 1 + 1, 3, none⟩ (.slice O5 (andH g h).root.out.length d5)) from by
        have hlm : (andH g h).labs.length = g.labs.length := and_labs
        have hKm : (andH g h).K = (Kp : Int) := by rw [HKP.out]; rfl
        have hs5 := b5.size
        have hk : ∀ q, q ≠ nB → q ≠ w.heap.size + 1 + 1 → ((((((W5.setCell ⟨nB, 2, none⟩ (.slice N5 (andH g h).root.nx.length c5)).setCell ⟨nB, 3, none⟩ (.slice O5 (andH g h).root.out.length d5)).setCell ⟨w.heap.size + 1 + 1, 0, none⟩ (.int .i64 (Kp : Int))).setCell ⟨w.heap.size + 1 + 1, 1, none⟩ (.slice L g.labs.length cL)).setCell ⟨w.heap.size + 1 + 1, 2, none⟩ (.slice N5 (andH g h).root.nx.length c5)).setCell ⟨w.heap.size + 1 + 1, 3, none⟩ (.slice O5 (andH g h).root.out.length d5)).heap[q]? = W5.heap[q]? := fun q h1 h2 => by
          rw [heap_set_other (p := ⟨w.heap.size + 1 + 1, 3, none⟩) h2, heap_set_other (p := ⟨w.heap.size + 1 + 1, 2, none⟩) h2, heap_set_other (p := ⟨w.heap.size + 1 + 1, 1, none⟩) h2, heap_set_other (p := ⟨w.heap.size + 1 + 1, 0, none⟩) h2, heap_set_other (p := ⟨nB, 3, none⟩) h1, heap_set_other (p := ⟨nB, 2, none⟩) h1]
        have hsz6 : ((((((W5.setCell ⟨nB, 2, none⟩ (.slice N5 (andH g h).root.nx.length c5)).setCell ⟨nB, 3, none⟩ (.slice O5 (andH g h).root.out.length d5)).setCell ⟨w.heap.size + 1 + 1, 0, none⟩ (.int .i64 (Kp : Int))).setCell ⟨w.heap.size + 1 + 1, 1, none⟩ (.slice L g.labs.length cL)).setCell ⟨w.heap.size + 1 + 1, 2, none⟩ (.slice N5 (andH g h).root.nx.length c5)).setCell ⟨w.heap.size + 1 + 1, 3, none⟩ (.slice O5 (andH g h).root.out.length d5)).heap.size = W5.heap.size := by
          rw [size_set, size_set, size_set, size_set, size_set, size_set]
        have hsl := HO.out.sl
        have hle := HO.out.le
        rw [List.take_of_length_le (by rw [hlm]; exact Nat.le_refl _)] at hsl
        have hw3 := HB3.out.size
        have hb5 : Below w.heap.size w W5 := HB3.out.trans (Below.mono (HBR.out.trans (b5.mono HBR.out.size)) hw3)
        refine ⟨L, cL, N5, c5, O5, d5, by show _ = Ending.returned (.tuple #[.agg #[.int .i64 (andH g h).K, .slice L (andH g h).labs.length cL, .slice N5 (andH g h).root.nx.length c5, .slice O5 (andH g h).root.out.length d5], .int .i64 0]); rw [hKm, hlm], ⟨?_, by rw [hlm]; exact hle, ?_⟩, ?_⟩
        · rw [hlm]
          refine SlP.more (SlP.keep hsl fun p hp => World.cell?_of_block ((hk p.block (by omega) (by omega)).trans (b5.block p.block hp.2))) fun b hb => ?_
          rw [hsz6]
          omega
        · refine SdV.more (SdV.keep g5 fun p hp => World.cell?_of_block (hk p.block (by omega) (by omega))) fun b hb => ?_
          rw [hsz6]
          omega
        · exact (((((hb5.setCell (p := ⟨nB, 2, none⟩) (by show w.heap.size ≤ nB; omega) _).setCell (p := ⟨nB, 3, none⟩) (by show w.heap.size ≤ nB; omega) _).setCell (p := ⟨w.heap.size + 1 + 1, 0, none⟩) (by show w.heap.size ≤ w.heap.size + 1 + 1; omega) _).setCell (p := ⟨w.heap.size + 1 + 1, 1, none⟩) (by show w.heap.size ≤ w.heap.size + 1 + 1; omega) _).setCell (p := ⟨w.heap.size + 1 + 1, 2, none⟩) (by show w.heap.size ≤ w.heap.size + 1 + 1; omega) _).setCell (p := ⟨w.heap.size + 1 + 1, 3, none⟩) (by show w.heap.size ≤ w.heap.size + 1 + 1; omega) _)
      clear hfs hW7 hA27 A0 A2 g5 b5 hfar hOL hgc X0 X1 X2 x0 x1 x2 x3 y0 y1 y2 y3
      go_wp2
      exact ret_and (x := .int .i64 0) rfl rfl rfl rfl HFS.out HRET.out
end Go.Proofs.Ytbipdnnalhdoaaa
