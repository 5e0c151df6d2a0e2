/- The document's round, good: a side that may be. -/
import Derived.Test.YtbipdnnalhdoaaaHq
import Derived.Test.YtbipdnnalhdoaaaHo
import Derived.Test.YtbipdnnalhdoaaaHk
namespace Go.Proofs.Ytbipdnnalhdoaaa
open Go.RowKit Go.Maps Go.WideMaps
attribute [local go_sem ↓] Go.wp_at_zero Go.wp_at_succ

/-- a machine's integer -/
def IntB (x : Int) : Prop := -9223372036854775808 ≤ x ∧ x ≤ 9223372036854775807
/-- a number counted round -/
def RoundRet (m : Nat) (w : World) (e : Ending) (w' : World) : Prop := ∃ r : Nat, r < m ∧ e = .returned (.int .i64 (r : Int)) ∧ w = w'
theorem round_any {x : Int} {m : Nat} (w : World) (hx : IntB x) (hm : 0 < m) (hm2 : m ≤ 1000) : Calls Try.prog 31 #[.int .i64 x, .int .i64 (m : Int)] w (RoundRet m w) := by
  obtain ⟨h1, h2⟩ := hx
  have hm0 : (0 : Int) < (m : Int) := by omega
  have hmne : ¬ (m : Int) = 0 := by omega
  by_cases h : x < 0
  · obtain ⟨y, hy⟩ : ∃ y : Nat, (y : Int) = -(x + 1) := ⟨(-(x + 1)).toNat, by omega⟩
    have hv : -(x + 1).tmod (m : Int) = ((y % m : Nat) : Int) := by
      have e : x + 1 = -(y : Int) := by omega
      rw [e, Int.neg_tmod, Int.neg_neg, Int.tmod_eq_emod_of_nonneg (by omega)]
      rfl
    have HR := Lib.hid (show RoundRet m w (.returned (.int .i64 (-(x + 1).tmod (m : Int)))) w from ⟨y % m, Nat.mod_lt _ hm, by rw [hv], rfl⟩)
    clear hy hv
    go_enter Try.func31, Try.ntmps31
    go_wp2
    go_ret
    exact HR.out
  · obtain ⟨y, hy⟩ : ∃ y : Nat, (y : Int) = x := ⟨x.toNat, by omega⟩
    subst hy
    have HR := Lib.hid (show RoundRet m w (.returned (.int .i64 ((y : Int) % (m : Int)))) w from ⟨y % m, Nat.mod_lt _ hm, rfl, rfl⟩)
    go_enter Try.func31, Try.ntmps31
    go_wp2
    go_ret
    exact HR.out

/-- two rows of the call's own: a side's, half made; all their blocks are apart -/
def GA (base : Nat) (w : World) (vn vo : Value) : Nat → Prop := fun b => base ≤ b ∧ b < w.heap.size ∧ vn.ownBlock ≠ some b ∧ vo.ownBlock ≠ some b
def GS (w : World) (base : Nat) (N : Option Addr) (cN : Nat) (O : Option Addr) (cO : Nat) (nx : List (List Int)) (out : List Int) : Prop :=
  (∃ xs, w.ownsRow base 24 1 (.slice N nx.length cN) nx.length xs ∧ CsIsP w (GA base w (.slice N nx.length cN) (.slice O out.length cO)) (nx.map rowC) xs) ∧
    w.ownsRow base 3 1 (.slice O out.length cO) out.length (ints out) ∧ ∀ q, (Value.slice N nx.length cN).ownBlock = some q → (Value.slice O out.length cO).ownBlock ≠ some q
section
variable {w w' : World} {base cN cO : Nat} {N O : Option Addr} {nx : List (List Int)} {ot : List Int}
theorem GS.nil (w : World) (base : Nat) : GS w base none 0 none 0 [] [] := ⟨⟨[], ⟨rfl, .inl ⟨rfl, rfl⟩⟩, CsIsP.nil _ _⟩, ⟨rfl, .inl ⟨rfl, rfl⟩⟩, fun q hq => by cases hq⟩
theorem own_far {z n : Nat} {e : TypeId} {v : Value} {xs : List Value} (h : w.ownsRow base e z v n xs) (hk : ∀ q, base ≤ q → q < w.heap.size → w'.heap[q]? = w.heap[q]?) : w'.ownsRow base e z v n xs :=
  fown_block h fun q hq => hk q (h.lt q hq).1 (h.lt q hq).2
theorem GS.far (h : GS w base N cN O cO nx ot) (hs : w.heap.size ≤ w'.heap.size) (hk : ∀ q, base ≤ q → q < w.heap.size → w'.heap[q]? = w.heap[q]?) : GS w' base N cN O cO nx ot := by
  obtain ⟨⟨xs, h1, h2⟩, h3, h4⟩ := h
  exact ⟨⟨xs, own_far h1 hk, (h2.keep fun p hp => World.cell?_of_block (hk p.block hp.1 hp.2.1)).more fun b hb => ⟨hb.1, Nat.lt_of_lt_of_le hb.2.1 hs, hb.2.2⟩⟩, own_far h3 hk, h4⟩
theorem GS.below (h : GS w base N cN O cO nx ot) (hb : Below w.heap.size w w') : GS w' base N cN O cO nx ot := h.far hb.size fun q _ hq => hb.block q hq
/-- a row more -/
theorem GS.row {w1 : World} {N' : Option Addr} {cN' : Nat} {xs : List Value} {r : List Int} {rv : Value} (h : GS w base N cN O cO nx ot) (hx : w.ownsRow base 24 1 (.slice N nx.length cN) nx.length xs) (hal : Below w.heap.size w w1) (ho : w'.ownsRow base 24 1 (.slice N' (nx.length + 1) cN') (nx.length + 1) (xs ++ [rv]))
    (hg : w1.grownBy w' (Value.slice N nx.length cN).ownBlock) (hat : ∀ q, (Value.slice N' (nx.length + 1) cN').ownBlock = some q → (Value.slice N nx.length cN).ownBlock = some q ∨ w.heap.size ≤ q)
    (hr : CIsP w (GA base w (.slice N nx.length cN) (.slice O ot.length cO)) (rowC r) rv) : GS w' base N' cN' O cO (nx ++ [r]) ot := by
  obtain ⟨⟨ys, h1, h2⟩, h3, h4⟩ := h
  obtain rfl := own_det hx h1
  have hsz : w.heap.size ≤ w'.heap.size := Nat.le_trans hal.size hg.size
  have hk : ∀ q, q < w.heap.size → (Value.slice N nx.length cN).ownBlock ≠ some q → w'.heap[q]? = w.heap[q]? := fun q hq hn => (hg.block q (Nat.lt_of_lt_of_le hq hal.size) (fun e => hn e.symm)).trans (hal.block q hq)
  have hll : (nx ++ [r]).length = nx.length + 1 := by simp
  refine ⟨⟨xs ++ [rv], by rw [hll]; exact ho, ?_⟩, fown_block h3 fun q hq => hk q (h3.lt q hq).2 fun e => h4 q e hq, fun q hq hq2 => ?_⟩
  · rw [hll, List.map_append]
    refine ((h2.append (CsIsP.cons hr (CsIsP.nil _ _))).keep fun p hp => World.cell?_of_block (hk p.block hp.2.1 hp.2.2.1)).more fun b hb => ⟨hb.1, Nat.lt_of_lt_of_le hb.2.1 hsz, fun e => ?_, hb.2.2.2⟩
    rcases hat b e with h5 | h5
    · exact hb.2.2.1 h5
    · have := hb.2.1; omega
  · rw [hll] at hq
    rcases hat q hq with h5 | h5
    · exact h4 q h5 hq2
    · have := (h3.lt q hq2).2; omega
/-- a number more -/
theorem GS.out {w1 : World} {O' : Option Addr} {cO' : Nat} {x : Int} (h : GS w base N cN O cO nx ot) (hal : Below w.heap.size w w1) (ho : w'.ownsRow base 3 1 (.slice O' (ot.length + 1) cO') (ot.length + 1) (ints ot ++ [.int .i64 x]))
    (hg : w1.grownBy w' (Value.slice O ot.length cO).ownBlock) (hat : ∀ q, (Value.slice O' (ot.length + 1) cO').ownBlock = some q → (Value.slice O ot.length cO).ownBlock = some q ∨ w.heap.size ≤ q) : GS w' base N cN O' cO' nx (ot ++ [x]) := by
  obtain ⟨⟨xs, h1, h2⟩, h3, h4⟩ := h
  have hsz : w.heap.size ≤ w'.heap.size := Nat.le_trans hal.size hg.size
  have hk : ∀ q, q < w.heap.size → (Value.slice O ot.length cO).ownBlock ≠ some q → w'.heap[q]? = w.heap[q]? := fun q hq hn => (hg.block q (Nat.lt_of_lt_of_le hq hal.size) (fun e => hn e.symm)).trans (hal.block q hq)
  have hll : (ot ++ [x]).length = ot.length + 1 := by simp
  refine ⟨⟨xs, fown_block h1 fun q hq => hk q (h1.lt q hq).2 (h4 q hq), ?_⟩, ?_, fun q hq hq2 => ?_⟩
  · rw [hll]
    refine (h2.keep fun p hp => World.cell?_of_block (hk p.block hp.2.1 hp.2.2.2)).more fun b hb => ⟨hb.1, Nat.lt_of_lt_of_le hb.2.1 hsz, hb.2.2.1, fun e => ?_⟩
    rcases hat b e with h5 | h5
    · exact hb.2.2.2 h5
    · have := hb.2.1; omega
  · rw [hll]
    unfold ints at ho ⊢
    rw [List.map_append]
    exact ho
  · rw [hll] at hq2
    rcases hat q hq2 with h5 | h5
    · exact h4 q hq h5
    · have := (h1.lt q hq).2; omega
theorem GS.sd (h : GS w base N cN O cO nx ot) : SdV w (fun b => base ≤ b ∧ b < w.heap.size) ⟨nx, ot⟩ N cN O cO := by
  obtain ⟨⟨xs, h1, h2⟩, h3, h4⟩ := h
  exact ⟨⟨xs, RdP.of_own h1, h2.more fun b hb => ⟨hb.1, hb.2.1⟩⟩, own_cap h1, ⟨_, RdP.of_own h3, CsIsP.ints _ _ _⟩, own_cap h3⟩
end

/-- what good tells -/
def GoodRet (w : World) (K o : Nat) (e : Ending) (w' : World) : Prop := ∃ (s : Sd) (B : Option Addr) (c1 : Nat) (C : Option Addr) (c2 : Nat), e = .returned (sdVal s B c1 C c2) ∧ SdOk s K o ∧ s.out.length ≤ 4 ∧ SdV w' (fun b => w.heap.size ≤ b ∧ b < w'.heap.size) s B c1 C c2 ∧ Below w.heap.size w w'
set_option maxHeartbeats 4000000 in
set_option maxRecDepth 100000 in
theorem good_any {w : World} {A : Option Addr} {c K o : Nat} {l : List Int} (HL : SlP w (fun b => b < w.heap.size) 1 A l.length (l.map .i)) (hlb : l.length ≤ 9223372036854775807) (hb : ∀ x ∈ l, IntB x) (hK1 : 1 ≤ K) (hK : K ≤ 4) (ho1 : 1 ≤ o) (ho : o ≤ 4) :
    Calls Try.prog 32 #[.slice A l.length c, .int .i64 (K : Int), .int .i64 (o : Int)] w (GoodRet w K o) := by
  have hB0 := (Below.refl _ w).alloc (Nat.le_refl _) (.cells #[.slice none 0 0, .slice none 0 0] 26)
  have hx0 := heap_alloc_new w (.cells #[.slice none 0 0, .slice none 0 0] 26)
  have hs0 : (w.alloc (.cells #[.slice none 0 0, .slice none 0 0] 26)).heap.size = w.heap.size + 1 := World.size_alloc _ _
  have HB := Lib.hid hb
  go_enter Try.func32, Try.ntmps32
  go_upto_region 1 with fail
  generalize w.alloc (.cells #[.slice none 0 0, .slice none 0 0] 26) = W1 at *
  have HL1 := Lib.hid (SlP.more (SlP.keep HL fun p hp => hB0.cell hp) fun b hb' => Nat.lt_of_lt_of_le hb' hB0.size)
  have HX0 := Lib.hid hx0
  have HB0 := Lib.hid hB0
  clear hb HL hx0 hB0
  go_upto_if 17 with fail
  go_cut [7, 17, 18, 19, 20, 21, 22] (fun s7 _ _ _ _ _ _ wx => ∃ n : Nat, s7 = .int .i64 n ∧ 1 ≤ n ∧ n ≤ 4 ∧ wx = W1)
  case first =>
    by_cases h0 : l.length = 0
    · have h1 : ¬ (0 : Int) < (l.length : Int) := by omega
      clear h0
      go_wp2
      go_meet
      exact ⟨1, rfl, by omega, by omega, rfl⟩
    · have h1 : (0 : Int) < (l.length : Int) := by omega
      obtain ⟨x, hx⟩ : ∃ x, l[0]? = some x := ⟨l[0]'(by omega), List.getElem?_eq_getElem _⟩
      obtain ⟨a, rfl, hab, k0⟩ := ints_at' HL1.out hx
      have hR := round_any W1 (HB.out x (List.mem_of_getElem? hx)) (m := 4) (by omega) (by omega)
      have k0' : W1.cell? a = some (.int .i64 x) := by
        have h9 : a.add 0 = a := by unfold Addr.add; rw [if_pos rfl]
        rw [h9] at k0
        exact k0
      have HR := Lib.hid hR
      have h1' : 0 < l.length := by omega
      clear h0 hx hR k0
      go_wp2_with fail
      refine HR.out.mono ?_
      rintro e w' ⟨r, hr, rfl, rfl⟩
      go_wp2
      go_meet
      exact ⟨1 + r, by go_num, by omega, by omega, rfl⟩
  case rest =>
    obtain ⟨n, rfl, hn1, hn4, rfl⟩ := hcut
    rename World => W1
    have hB2 := (Below.refl _ W1).alloc (Nat.le_refl _) (.cells #[.slice none 0 0, .slice none 0 0] 26)
    have hx2 := heap_alloc_new W1 (.cells #[.slice none 0 0, .slice none 0 0] 26)
    have hsz2 : (W1.alloc (.cells #[.slice none 0 0, .slice none 0 0] 26)).heap.size = W1.heap.size + 1 := World.size_alloc _ _
    go_upto_region 5 with fail
    generalize W1.alloc (.cells #[.slice none 0 0, .slice none 0 0] 26) = W2 at *
    obtain ⟨gs, hgs⟩ : ∃ gs, gs = w.heap.size + 1 := ⟨_, rfl⟩
    rw [hs0, ← hgs] at hx2
    rw [← hgs]
    have HGS := Lib.hid hgs
    have HB2 := Lib.hid hB2
    have HX2 := Lib.hid hx2
    clear hgs hB2 hx2
    go_wp2
    go_loopw [10, 9] (fun iv pv wr => ∃ (i p cN cO : Nat) (N O : Option Addr) (nx : List (List Int)) (ot : List Int), iv = .int .i64 i ∧ pv = .int .i64 p ∧ i ≤ n ∧ nx.length = i ∧ ot.length = i ∧ p ≤ 1 + 6 * i ∧ Hid ((∀ r ∈ nx, r.length = K ∧ ∀ x ∈ r, 0 ≤ x ∧ x < (n : Int)) ∧ ∀ x ∈ ot, 0 ≤ x ∧ x < (o : Int)) ∧
      wr.heap[gs]? = some (.cells #[.slice N i cN, .slice O i cO] 26 (0, 0)) ∧ GS wr (W1.heap.size + 1) N cN O cO nx ot ∧ Below W1.heap.size W1 wr) (fun iv _ _ => n - (intOf iv).toNat)
    case atStart => exact ⟨0, 1, 0, 0, none, none, [], [], rfl, rfl, Nat.zero_le _, rfl, rfl, by omega, ⟨(fun r hr => by cases hr), (fun x hx => by cases hx)⟩, HX2.out, GS.nil _ _, HB2.out⟩
    case round =>
      obtain ⟨i, p, cN, cO, N, O, nx, ot, rfl, rfl, hi, hnx, hot, hp, hall, hgc, hG, hbr⟩ := hrel
      obtain ⟨wo, rfl⟩ : ∃ wo : World, wo = wr := ⟨_, rfl⟩
      have HGC := Lib.hid hgc
      have HG := Lib.hid hG
      have HBR := Lib.hid hbr
      have HNX := Lib.hid (And.intro hnx hot)
      clear hgc hG hbr hnx hot
      by_cases hlt : i < n
      · have hiI : (i : Int) < (n : Int) := by omega
        go_wp2
        go_loopw [12, 11, 9] (fun vv rv pv wr => ∃ (v p cR : Nat) (R : Option Addr) (r : List Int), vv = .int .i64 v ∧ rv = .slice R v cR ∧ pv = .int .i64 p ∧ v ≤ K ∧ p ≤ 1 + 6 * i + v ∧ Hid (r.length = v ∧ ∀ x ∈ r, 0 ≤ x ∧ x < (n : Int)) ∧ wr.ownsRow wo.heap.size 3 1 (.slice R v cR) v (ints r) ∧ Below wo.heap.size wo wr) (fun vv _ _ _ => K - (intOf vv).toNat)
        case atStart => exact ⟨0, p, 0, none, [], rfl, rfl, rfl, Nat.zero_le _, by omega, ⟨rfl, fun x hx => by cases hx⟩, ⟨rfl, .inl ⟨rfl, rfl⟩⟩, Below.refl _ _⟩
        case round =>
          obtain ⟨v, p, cR, R, r, rfl, rfl, rfl, hv, hp, hr, hown, hb⟩ := hrel
          have HO := Lib.hid hown
          have HB' := Lib.hid hb
          have hbs := hb.size
          clear hown hb
          by_cases hvl : v < K
          · have hvI : (v : Int) < (K : Int) := by omega
            go_upto_if 36 with fail
            go_cut [13, 36, 37, 38, 39, 40, 41, 42] (fun s13 _ _ _ _ _ _ _ wx => ∃ x : Nat, s13 = .int .i64 x ∧ x < n ∧ wx = wr)
            case first =>
              by_cases hpl : p < l.length
              · have hpI : (p : Int) < (l.length : Int) := by omega
                have hp0 : (0 : Int) ≤ (p : Int) := by omega
                obtain ⟨x, hx⟩ : ∃ x, l[p]? = some x := ⟨_, List.getElem?_eq_getElem hpl⟩
                have hLr := SlP.keep HL1.out fun q hq => (HBR.out.trans (HB'.out.mono HBR.out.size)).cell hq
                obtain ⟨a, rfl, hab, k0⟩ := ints_at' hLr hx
                have HR := Lib.hid (round_any wr (HB.out x (List.mem_of_getElem? hx)) (m := n) (by omega) (by omega))
                clear hx hLr
                go_wp2_with fail
                refine HR.out.mono ?_
                rintro e w' ⟨r', hr', rfl, rfl⟩
                go_wp2
                go_meet
                exact ⟨r', rfl, hr', rfl⟩
              · have hpI : ¬ (p : Int) < (l.length : Int) := by omega
                go_wp2
                go_meet
                exact ⟨0, rfl, by omega, rfl⟩
            case rest =>
              obtain ⟨x, rfl, hx, rfl⟩ := hcut
              rename World => wr
              have hown := HO.out
              go_upto_region 17 with (at_builtin; go_must (refine wpList_push_at rfl _ _ _ rfl wo.heap.size rowIn R v cR _ rfl hown [.int .i64 (x : Int)] _ rfl rfl (by simp [Value.oneCell']) (by unfold maxLen; omega) (by omega) hbs ?_); intro R4 c4 W4 hc4 ho4 hg4 hat4)
              have HO4 := Lib.hid (show W4.ownsRow wo.heap.size 3 1 (.slice R4 (v + 1) c4) (v + 1) (ints (r ++ [(x : Int)])) by unfold ints at ho4 ⊢; rw [List.map_append]; exact ho4)
              have HB4 := Lib.hid (HB'.out.grown hg4 hbs (fun q hq => (HO.out.lt q hq).1))
              have HR4 := Lib.hid (show (r ++ [(x : Int)]).length = v + 1 ∧ ∀ y ∈ r ++ [(x : Int)], 0 ≤ y ∧ y < (n : Int) from ⟨by rw [List.length_append, hr.out.1]; rfl, fun y hy => by
                rcases List.mem_append.1 hy with h9 | h9
                · exact hr.out.2 y h9
                · rw [List.mem_singleton.1 h9]; omega⟩)
              clear hown hc4 ho4 hg4 hat4
              go_wp2
              go_roundw
              case rel => exact ⟨v + 1, p + 1, c4, R4, r ++ [(x : Int)], by go_num, rfl, by go_num, by omega, by omega, HR4.out, HO4.out, HB4.out⟩
              case measure => simp [intOf]; omega
          · obtain rfl : v = K := by omega
            have hvI : ¬ (v : Int) < (v : Int) := by omega
            clear hvl
            go_upto_if 52 with fail
            go_cut [14, 52, 53, 54, 55, 56, 57, 58] (fun s14 _ _ _ _ _ _ _ wx => ∃ x : Nat, s14 = .int .i64 x ∧ x < o ∧ wx = wr)
            case first =>
              by_cases hpl : p < l.length
              · have hpI : (p : Int) < (l.length : Int) := by omega
                have hp0 : (0 : Int) ≤ (p : Int) := by omega
                obtain ⟨x, hx⟩ : ∃ x, l[p]? = some x := ⟨_, List.getElem?_eq_getElem hpl⟩
                have hLr := SlP.keep HL1.out fun q hq => (HBR.out.trans (HB'.out.mono HBR.out.size)).cell hq
                obtain ⟨a, rfl, hab, k0⟩ := ints_at' hLr hx
                have HR := Lib.hid (round_any wr (HB.out x (List.mem_of_getElem? hx)) (m := o) (by omega) (by omega))
                clear hx hLr
                go_wp2_with fail
                refine HR.out.mono ?_
                rintro e w' ⟨r', hr', rfl, rfl⟩
                go_wp2
                go_meet
                exact ⟨r', rfl, hr', rfl⟩
              · have hpI : ¬ (p : Int) < (l.length : Int) := by omega
                go_wp2
                go_meet
                exact ⟨0, rfl, by omega, rfl⟩
            case rest =>
              obtain ⟨x, rfl, hx, rfl⟩ := hcut
              rename World => wr
              have hgl := (Array.getElem?_eq_some_iff.1 HGC.out).1
              have hgc := (HB'.out.block gs hgl).trans HGC.out
              have hG := HG.out.below HB'.out
              have hrow := own_cap HO.out
              obtain ⟨⟨xs0, q1, _⟩, q3, _⟩ := HG.out
              have hNlt : ∀ q, (Value.slice N nx.length cN).ownBlock = some q → q < wo.heap.size ∧ gs < q := fun q hq => ⟨(q1.lt q hq).2, by have h9 := (q1.lt q hq).1; rw [HGS.out]; omega⟩
              have hOlt : ∀ q, (Value.slice O ot.length cO).ownBlock = some q → q < wo.heap.size ∧ gs < q := fun q hq => ⟨(q3.lt q hq).2, by have h9 := (q3.lt q hq).1; rw [HGS.out]; omega⟩
              rw [HNX.out.1] at hNlt
              rw [HNX.out.2] at hOlt
              obtain ⟨⟨xs, g1, g2⟩, g3, g4⟩ := hG
              have hrv : CIsP wr (GA (W1.heap.size + 1) wr (.slice N nx.length cN) (.slice O ot.length cO)) (rowC r) (.slice R v cR) := by
                have h9 : SlP wr (GA (W1.heap.size + 1) wr (.slice N nx.length cN) (.slice O ot.length cO)) 1 R v (r.map .i) := ⟨_, (RdP.of_own HO.out).more fun b hb => ⟨by have h9 := HGS.out; have h8 := hb.1; omega, hb.2, fun e => by rw [HNX.out.1] at e; have := (hNlt b e).1; omega, fun e => by rw [HNX.out.2] at e; have := (hOlt b e).1; omega⟩, CsIsP.ints _ _ _⟩
                have h8 := CIsP.sl h9 hrow
                unfold rowC
                rw [hr.out.1]
                exact h8
              have hown := g1
              rw [HNX.out.1] at hown
              have hneg : some gs ≠ (Value.slice N i cN).ownBlock := fun e => by have := (hNlt gs e.symm).2; omega
              have hgw : gs < wr.heap.size := Nat.lt_of_lt_of_le hgl hbs
              have k0 := Lib.cell_of_heap hgc 0
              have k1 := Lib.cell_of_heap hgc 1
              have f0 := Lib.frozen_of_heap hgc 0
              have f1 := Lib.frozen_of_heap hgc 1
              simp only [List.getElem?_toArray, List.getElem?_cons_zero, List.getElem?_cons_succ] at k0 k1
              have hbase : W1.heap.size + 1 ≤ wr.heap.size := by have := (Array.getElem?_eq_some_iff.1 HGC.out).1; have h9 := HGS.out; omega
              have HGF := Lib.hid (show GS wr (W1.heap.size + 1) N cN O cO nx ot from ⟨⟨xs, g1, g2⟩, g3, g4⟩)
              have HRV := Lib.hid hrv
              have HG1 := Lib.hid g1
              clear g1 g2 g3 g4 hrv q1 q3
              go_upto_region 23 with (at_builtin; go_must (refine wpList_push_at rfl _ _ _ rfl (W1.heap.size + 1) rowSl N i cN _ rfl hown [.slice R v cR] _ rfl rfl (by simp [Value.oneCell']) (by unfold maxLen; omega) (by omega) hbase ?_); intro N5 cN5 W5 hc5 ho5 hg5 hat5; have g50 := (grown_cell hg5 (a := ⟨gs, 0, none⟩) hgw hneg).1.trans k0; have g51 := (grown_cell hg5 (a := ⟨gs, 0, none⟩) hgw hneg).2.trans f0)
              have h5 := GS.row HGF.out HG1.out (Below.refl _ _) (by rw [HNX.out.1]; exact ho5) (by rw [HNX.out.1]; exact hg5) (by rw [HNX.out.1]; exact hat5) HRV.out
              have hgc5 := (hg5.block gs hgw hneg).trans hgc
              have hs5 := hg5.size
              have hgc6 := heap_setCell_same W5 gs 0 _ _ (.slice N5 (i + 1) cN5) hgc5
              rw [show (#[Value.slice N i cN, Value.slice O i cO].setIfInBounds 0 (.slice N5 (i + 1) cN5)) = #[.slice N5 (i + 1) cN5, .slice O i cO] from rfl] at hgc6
              have h6 : GS (W5.setCell ⟨gs, 0, none⟩ (.slice N5 (i + 1) cN5)) (W1.heap.size + 1) N5 cN5 O cO (nx ++ [r]) ot := h5.far (by rw [size_set]; exact Nat.le_refl _) fun q hq _ => heap_set_other (p := ⟨gs, 0, none⟩) (by have := HGS.out; show q ≠ gs; omega)
              have hb6 : Below W1.heap.size W1 (W5.setCell ⟨gs, 0, none⟩ (.slice N5 (i + 1) cN5)) := (((HBR.out.trans (HB'.out.mono HBR.out.size))).grown hg5 (by omega) (fun q hq => by have := (hNlt q hq).2; have := HGS.out; omega)).setCell (p := ⟨gs, 0, none⟩) (by have := HGS.out; show _ ≤ gs; omega) _
              have hs6 : W5.heap.size ≤ (W5.setCell ⟨gs, 0, none⟩ (.slice N5 (i + 1) cN5)).heap.size := by rw [size_set]; exact Nat.le_refl _
              have HB6 := Lib.hid hb6
              have HG6 := Lib.hid h6
              generalize W5.setCell ⟨gs, 0, none⟩ (.slice N5 (i + 1) cN5) = W6 at *
              have hneo : some gs ≠ (Value.slice O i cO).ownBlock := fun e => by have := (hOlt gs e.symm).2; omega
              have hgw6 : gs < W6.heap.size := by omega
              obtain ⟨_, o3, _⟩ := HG6.out
              have hown2 := o3
              rw [HNX.out.2] at hown2
              replace k0 := Lib.cell_of_heap hgc6 0
              replace k1 := Lib.cell_of_heap hgc6 1
              replace f0 := Lib.frozen_of_heap hgc6 0
              replace f1 := Lib.frozen_of_heap hgc6 1
              simp only [List.getElem?_toArray, List.getElem?_cons_zero, List.getElem?_cons_succ] at k0 k1
              have hbase6 : W1.heap.size + 1 ≤ W6.heap.size := by omega
              clear g50 g51 hown ho5 hg5 hat5 h5 hgc5 hc5 hb6 h6 o3 hgc
              go_upto_region 8 with (at_builtin; go_must (refine wpList_push_at rfl _ _ _ rfl (W1.heap.size + 1) rowIn O i cO _ rfl hown2 [.int .i64 (x : Int)] _ rfl rfl (by simp [Value.oneCell']) (by unfold maxLen; omega) (by omega) hbase6 ?_); intro O7 cO7 W7 hc7 ho7 hg7 hat7; have g70 := (grown_cell hg7 (a := ⟨gs, 1, none⟩) hgw6 hneo).1.trans k1; have g71 := (grown_cell hg7 (a := ⟨gs, 1, none⟩) hgw6 hneo).2.trans f1)
              have h7 := GS.out HG6.out (Below.refl _ _) (by rw [HNX.out.2]; unfold ints at ho7 ⊢; exact ho7) (by rw [HNX.out.2]; exact hg7) (by rw [HNX.out.2]; exact hat7)
              have hgc7 := (hg7.block gs hgw6 hneo).trans hgc6
              have hs7 := hg7.size
              have hgc8 := heap_setCell_same W7 gs 1 _ _ (.slice O7 (i + 1) cO7) hgc7
              rw [show (#[Value.slice N5 (i + 1) cN5, Value.slice O i cO].setIfInBounds 1 (.slice O7 (i + 1) cO7)) = #[.slice N5 (i + 1) cN5, .slice O7 (i + 1) cO7] from rfl] at hgc8
              have h8 : GS (W7.setCell ⟨gs, 1, none⟩ (.slice O7 (i + 1) cO7)) (W1.heap.size + 1) N5 cN5 O7 cO7 (nx ++ [r]) (ot ++ [(x : Int)]) := h7.far (by rw [size_set]; exact Nat.le_refl _) fun q hq _ => heap_set_other (p := ⟨gs, 1, none⟩) (by have := HGS.out; show q ≠ gs; omega)
              have hb8 : Below W1.heap.size W1 (W7.setCell ⟨gs, 1, none⟩ (.slice O7 (i + 1) cO7)) := (HB6.out.grown hg7 (by omega) (fun q hq => by have := (hOlt q hq).2; have := HGS.out; omega)).setCell (p := ⟨gs, 1, none⟩) (by have := HGS.out; show _ ≤ gs; omega) _
              have HB8 := Lib.hid hb8
              have HG8 := Lib.hid h8
              have HC8 := Lib.hid hgc8
              have HALL := Lib.hid (show (∀ r' ∈ nx ++ [r], r'.length = v ∧ ∀ x ∈ r', 0 ≤ x ∧ x < (n : Int)) ∧ ∀ y ∈ ot ++ [(x : Int)], 0 ≤ y ∧ y < (o : Int) from ⟨fun r' hr' => by
                rcases List.mem_append.1 hr' with h9 | h9
                · exact hall.out.1 r' h9
                · rw [List.mem_singleton.1 h9]; exact hr.out, fun y hy => by
                rcases List.mem_append.1 hy with h9 | h9
                · exact hall.out.2 y h9
                · rw [List.mem_singleton.1 h9]; omega⟩)
              clear h7 h8 hb8 hgc7 hgc8 hgc6 g70 g71 ho7 hg7 hat7 hown2 k0 k1 f0 f1 hc7
              generalize W7.setCell ⟨gs, 1, none⟩ (.slice O7 (i + 1) cO7) = W8 at *
              go_wp2
              go_roundw
              case rel => exact ⟨i + 1, p + 1, cN5, cO7, N5, O7, nx ++ [r], ot ++ [(x : Int)], by go_num, by go_num, by omega, by rw [List.length_append, HNX.out.1]; rfl, by rw [List.length_append, HNX.out.2]; rfl, by omega, HALL.out, HC8.out, HG8.out, HB8.out⟩
              case measure => simp [intOf]; omega
      · obtain rfl : i = n := by omega
        have hres := (HBR.out.block w.heap.size (by omega)).trans HX0.out
        have k0 := Lib.cell_of_heap HGC.out 0
        have k1 := Lib.cell_of_heap HGC.out 1
        have y0 := Lib.cell_of_heap hres 0
        have y1 := Lib.cell_of_heap hres 1
        have f0 := Lib.frozen_of_heap hres 0
        have f1 := Lib.frozen_of_heap hres 1
        simp only [List.getElem?_toArray, List.getElem?_cons_zero, List.getElem?_cons_succ] at k0 k1 y0 y1
        have HRES := Lib.hid hres
        clear hres
        go_wp2
        have hB9 : Below w.heap.size w ((wo.setCell ⟨w.heap.size, 0, none⟩ (.slice N i cN)).setCell ⟨w.heap.size, 1, none⟩ (.slice O i cO)) := ((HB0.out.trans (HBR.out.mono HB0.out.size)).setCell (p := ⟨w.heap.size, 0, none⟩) (Nat.le_refl _) _).setCell (p := ⟨w.heap.size, 1, none⟩) (Nat.le_refl _) _
        have hG9 : GS ((wo.setCell ⟨w.heap.size, 0, none⟩ (.slice N i cN)).setCell ⟨w.heap.size, 1, none⟩ (.slice O i cO)) (W1.heap.size + 1) N cN O cO nx ot := HG.out.far (by rw [size_set, size_set]; exact Nat.le_refl _) fun q hq _ => (heap_set_other (p := ⟨w.heap.size, 1, none⟩) (by show q ≠ w.heap.size; omega)).trans (heap_set_other (p := ⟨w.heap.size, 0, none⟩) (by show q ≠ w.heap.size; omega))
        refine ret_sd rfl rfl rfl (two_stored HRES.out _ _) ⟨⟨nx, ot⟩, N, cN, O, cO, by rw [sdVal, HNX.out.1, HNX.out.2], ⟨by show 0 < ot.length; rw [HNX.out.2]; omega, by show nx.length = ot.length; rw [HNX.out.1, HNX.out.2], fun r hr => ?_, hall.out.2⟩, by show ot.length ≤ 4; rw [HNX.out.2]; omega, hG9.sd.more fun b hb => ⟨by omega, hb.2⟩, hB9⟩
        have h9 := hall.out.1 r hr
        refine ⟨h9.1, fun x hx => ?_⟩
        have h8 := h9.2 x hx
        refine ⟨h8.1, ?_⟩
        show x < (ot.length : Int)
        rw [HNX.out.2]
        exact h8.2
end Go.Proofs.Ytbipdnnalhdoaaa
