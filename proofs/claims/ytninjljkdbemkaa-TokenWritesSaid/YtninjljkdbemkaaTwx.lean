/- strainerref04.Open, one and Text of an element without kids (the law TokenWrites). strainerref04.one and Text of an element without kids (the law TokenWrites). Plain: the tokens of written elements without kids are their tags. Plain: the tokens of written elements without kids, side by side. Plain: the elements of good nodes are good (TokenWrites). The law TokenWrites. -/
import Derived.Test.YtninjljkdbemkaaTl
import Derived.Deep.RegionHeld3
import Derived.Test.YtninjljkdbemkaaTbp
import Derived.Test.YtninjljkdbemkaaG5
namespace Go.Proofs.Ytninjljkdbemkaa
open Go.RowKit

/-- a node's attributes are few -/
def AtFew (ats : List Atr) : Prop := ats.length ≤ 5 ∧ ∀ a ∈ ats, a.1.length ≤ 1000 ∧ a.2.length ≤ 1000
theorem atrL_len {a : Atr} (h : a.1.length ≤ 1000 ∧ a.2.length ≤ 1000) : (atrL a).length ≤ 20000 := by
  have := (esc_length true a.2).2
  simp only [atrL, List.length_append, List.length_cons, List.length_nil]
  omega
theorem atrs_len : ∀ {l : List Atr}, (∀ a ∈ l, a.1.length ≤ 1000 ∧ a.2.length ≤ 1000) → (l.flatMap atrL).length ≤ 20000 * l.length
  | [], _ => Nat.zero_le _
  | a :: l, h => by
    have h1 := atrL_len (h a (by simp))
    have h2 := atrs_len (l := l) (fun x hx => h x (by simp [hx]))
    simp only [List.flatMap_cons, List.length_append, List.length_cons]
    omega
set_option maxHeartbeats 4000000 in
set_option maxRecDepth 100000 in
/-- strainerref04.Open of an element -/
theorem RefOpen_elem {w : World} {nm : List UInt8} {A2 : Option Addr} {c2 : Nat} {ats : List Atr} {tx : List UInt8} (hat : Atrs w w.heap.size A2 ats.length ats) (hc : ats.length ≤ c2) (K : Value) (hnm : nm.length ≤ 1000) (hf : AtFew ats) :
    Calls Try.prog 36 #[.agg #[.int .i64 1, .string ⟨nm.toArray⟩, .slice A2 ats.length c2, .string ⟨tx.toArray⟩, K]] w fun e w' => e = .returned (.string ⟨([60] ++ (nm ++ (ats.flatMap atrL ++ [62]))).toArray⟩) ∧ Below w.heap.size w w' := by
  have ba := (Below.refl w.heap.size w).alloc (Nat.le_refl _) (.cells #[.int .i64 1, .string ⟨nm.toArray⟩, .slice A2 ats.length c2, .string ⟨tx.toArray⟩, K] 28)
  have ht := heap_alloc_new w (.cells #[.int .i64 1, .string ⟨nm.toArray⟩, .slice A2 ats.length c2, .string ⟨tx.toArray⟩, K] 28)
  have hs0 : ((w.alloc (.cells #[.int .i64 1, .string ⟨nm.toArray⟩, .slice A2 ats.length c2, .string ⟨tx.toArray⟩, K] 28)).heap.size) = w.heap.size + 1 := by simp
  have z0 : ¬ 9223372036854775807 < 1 + nm.length := by omega
  have hc60 : (⟨#[60]⟩ : ByteArray) ++ ⟨nm.toArray⟩ = ⟨([60] ++ nm).toArray⟩ := cat_str [60] nm
  have H60 := Lib.hid hc60
  clear hc60
  go_enter Try.func36, Try.ntmps36
  go_upto_region 5 with fail
  go_loopw [3, 4] (fun sv' iv wr => ∃ k : Nat, sv' = .string ⟨([60] ++ (nm ++ (ats.take k).flatMap atrL)).toArray⟩ ∧ iv = .int .i64 k ∧ k ≤ ats.length ∧ Below w.heap.size w wr ∧ wr.heap[w.heap.size]? = some (.cells #[.int .i64 1, .string ⟨nm.toArray⟩, .slice A2 ats.length c2, .string ⟨tx.toArray⟩, K] 28 (0, 0))) (fun _ iv _ => ats.length - (intOf iv).toNat)
  case atStart => exact ⟨0, by rw [H60.out]; simp, rfl, Nat.zero_le _, ba, ht⟩
  case round =>
    obtain ⟨k, rfl, rfl, hk, hb, hx⟩ := hrel
    have g2 := Lib.cell_of_heap hx 2
    simp only [List.getElem?_toArray, List.getElem?_cons_zero, List.getElem?_cons_succ] at g2
    have hln : ((ats.take k).flatMap atrL).length ≤ 20000 * k := by
      have := atrs_len (l := ats.take k) (fun a ha => hf.2 a (List.mem_of_mem_take ha))
      rw [List.length_take] at this
      omega
    have hk5 := hf.1
    by_cases hlt : k < ats.length
    · obtain ⟨ad, rfl, had, p0, p1⟩ := hat.cells hlt hlt
      have hm := hf.2 _ (List.getElem_mem hlt)
      have HNX := Lib.hid (show (ats.take (k + 1)).flatMap atrL = (ats.take k).flatMap atrL ++ atrL ats[k] by rw [List.take_succ_eq_append_getElem hlt, List.flatMap_append]; simp)
      generalize ats[k] = at_ at *
      generalize hacc : [60] ++ (nm ++ (ats.take k).flatMap atrL) = acc at *
      have hal : acc.length ≤ 102000 := by rw [← hacc]; simp only [List.length_append, List.length_cons, List.length_nil]; omega
      have HACC := Lib.hid hacc
      have he := (esc_length true at_.2).2
      have hxs : w.heap.size < wr.heap.size := (Array.getElem?_eq_some_iff.1 hx).1
      have HX := Lib.hid hx
      have hL0 : ∀ w', Below wr.heap.size wr w' → w'.cell? ⟨w.heap.size, 2, none⟩ = some (.slice (some ad) ats.length c2) := fun w' h => (h.cell (p := ⟨w.heap.size, 2, none⟩) hxs).trans g2
      have hL1 : ∀ w', Below wr.heap.size wr w' → w'.cell? (ad.add (k * 2)) = some (.string ⟨at_.1.toArray⟩) := fun w' h => (h.cell (p := ad.add (k * 2)) (Nat.lt_of_lt_of_le had hb.size)).trans ((hb.cell (p := ad.add (k * 2)) had).trans p0)
      have hL2 : ∀ w', Below wr.heap.size wr w' → w'.cell? ⟨(ad.add (k * 2)).block, (ad.add (k * 2)).off + 1, none⟩ = some (.string ⟨at_.2.toArray⟩) := fun w' h => (h.cell (p := ⟨(ad.add (k * 2)).block, (ad.add (k * 2)).off + 1, none⟩) (Nat.lt_of_lt_of_le had hb.size)).trans ((hb.cell (p := ⟨(ad.add (k * 2)).block, (ad.add (k * 2)).off + 1, none⟩) had).trans p1)
      have hE : ∀ w', Calls Try.prog 35 #[.string ⟨at_.2.toArray⟩, .bool true] w' fun e w2 => e = .returned (.string ⟨(esc true at_.2).toArray⟩) ∧ Below w'.heap.size w' w2 := by
        intro w'
        refine (REscape_any (IsStr.mk at_.2) (by omega) true).mono ?_
        rintro e W1 ⟨s, rfl, hs, b1⟩
        obtain rfl := hs.to
        exact ⟨rfl, b1⟩
      have HE := Lib.hid hE
      have hcat : ((((((⟨acc.toArray⟩ : ByteArray) ++ ⟨#[32]⟩) ++ ⟨at_.1.toArray⟩) ++ ⟨#[61, 34]⟩) ++ ⟨(esc true at_.2).toArray⟩) ++ ⟨#[34]⟩) = ⟨([60] ++ (nm ++ (ats.take (k + 1)).flatMap atrL)).toArray⟩ := by
        have h1 := cat_str acc [32]
        have h2 := cat_str (acc ++ [32]) at_.1
        have h3 := cat_str (acc ++ [32] ++ at_.1) [61, 34]
        have h4 := cat_str (acc ++ [32] ++ at_.1 ++ [61, 34]) (esc true at_.2)
        have h5 := cat_str (acc ++ [32] ++ at_.1 ++ [61, 34] ++ esc true at_.2) [34]
        rw [h1, h2, h3, h4, h5, HNX.out, ← HACC.out]
        congr 2
        simp [atrL]
      have HCAT := Lib.hid hcat
      generalize hel : esc true at_.2 = el at *
      have z1 : ¬ 9223372036854775807 < acc.length + 1 := by omega
      have z2 : ¬ 9223372036854775807 < acc.length + 1 + at_.1.length := by omega
      have z3 : ¬ 9223372036854775807 < acc.length + 1 + at_.1.length + 2 := by omega
      have z4 : ¬ 9223372036854775807 < acc.length + 1 + at_.1.length + 2 + el.length := by omega
      have z5 : ¬ 9223372036854775807 < acc.length + 1 + at_.1.length + 2 + el.length + 1 := by omega
      clear hcat hE hacc hx p0 p1 hat ba ht hs0 z0 hel he
      go_upto_region 7 with fail
      clear g2
      go_region_held3 (fun w' => Below wr.heap.size wr w')
        (repeat (first
          | assumption
          | with_reducible exact Below.refl _ _
          | with_reducible refine Below.drew ?_
          | with_reducible refine bt (a := wr) ?_ br))
        ((go_at_call 35; refine (HE.out _).mono ?_; rintro e WA ⟨rfl, br⟩))
      all_goals
        rename Below wr.heap.size wr _ => b7
        rw [HCAT.out]
        go_wp2
        go_roundw
        case rel => exact ⟨k + 1, rfl, by go_num, by omega, bt hb b7, (b7.block _ hxs).trans HX.out⟩
        case measure => simp [intOf]; omega
    · obtain rfl : k = ats.length := by omega
      rw [List.take_length] at hln ⊢
      have hcat : (⟨([60] ++ (nm ++ ats.flatMap atrL)).toArray⟩ : ByteArray) ++ ⟨#[62]⟩ = ⟨([60] ++ (nm ++ (ats.flatMap atrL ++ [62]))).toArray⟩ := by
        have := cat_str ([60] ++ (nm ++ ats.flatMap atrL)) [62]
        rw [this]
        simp
      have HCAT := Lib.hid hcat
      have hal : ([60] ++ (nm ++ ats.flatMap atrL)).length ≤ 102000 := by simp only [List.length_append, List.length_cons, List.length_nil]; omega
      clear hcat
      generalize [60] ++ (nm ++ ats.flatMap atrL) = acc at *
      have z1 : ¬ 9223372036854775807 < acc.length + 1 := by omega
      go_wp2
      rw [HCAT.out]
      go_ret
      exact ⟨rfl, hb⟩
end Go.Proofs.Ytninjljkdbemkaa
namespace Go.Proofs.Ytninjljkdbemkaa
open Go.RowKit

/-- the text of an element without kids -/
def elL (nm : List UInt8) (ats : List Atr) : List UInt8 := [60] ++ (nm ++ (ats.flatMap atrL ++ [62])) ++ ([60, 47] ++ (nm ++ [62]))
set_option maxHeartbeats 2000000 in
set_option maxRecDepth 100000 in
/-- strainerref04.one of an element without kids -/
theorem RefOne_elem {w : World} {nm : List UInt8} {A2 : Option Addr} {c2 : Nat} {ats : List Atr} {tx : List UInt8} (hat : Atrs w w.heap.size A2 ats.length ats) (hc : ats.length ≤ c2) (hnm : nm.length ≤ 1000) (hf : AtFew ats) (hv : voidL nm = false) :
    Calls Try.prog 21 #[.agg #[.int .i64 1, .string ⟨nm.toArray⟩, .slice A2 ats.length c2, .string ⟨tx.toArray⟩, .slice none 0 0], .bool false] w fun e w' => e = .returned (.string ⟨(elL nm ats).toArray⟩) ∧ Below w.heap.size w w' := by
  have ba := (Below.refl w.heap.size w).alloc (Nat.le_refl _) (.cells #[.int .i64 1, .string ⟨nm.toArray⟩, .slice A2 ats.length c2, .string ⟨tx.toArray⟩, .slice none 0 0] 28)
  have ht := heap_alloc_new w (.cells #[.int .i64 1, .string ⟨nm.toArray⟩, .slice A2 ats.length c2, .string ⟨tx.toArray⟩, .slice none 0 0] 28)
  have hat1 : Atrs (w.alloc (.cells #[.int .i64 1, .string ⟨nm.toArray⟩, .slice A2 ats.length c2, .string ⟨tx.toArray⟩, .slice none 0 0] 28)) (w.alloc (.cells #[.int .i64 1, .string ⟨nm.toArray⟩, .slice A2 ats.length c2, .string ⟨tx.toArray⟩, .slice none 0 0] 28)).heap.size A2 ats.length ats := (Rd.below (B := w.heap.size) hat ba).more ba.size
  have hlo := atrs_len hf.2
  have hf1 := hf.1
  have hcat1 : (⟨([60] ++ (nm ++ (ats.flatMap atrL ++ [62]))).toArray⟩ : ByteArray) ++ ⟨#[60, 47]⟩ ++ ⟨nm.toArray⟩ ++ ⟨#[62]⟩ = ⟨(elL nm ats).toArray⟩ := by
    have h1 := cat_str ([60] ++ (nm ++ (ats.flatMap atrL ++ [62]))) [60, 47]
    have h2 := cat_str ([60] ++ (nm ++ (ats.flatMap atrL ++ [62])) ++ [60, 47]) nm
    have h3 := cat_str ([60] ++ (nm ++ (ats.flatMap atrL ++ [62])) ++ [60, 47] ++ nm) [62]
    rw [h1, h2, h3]
    congr 2
    simp [elL]
  have HC1 := Lib.hid hcat1
  have hoL : ([60] ++ (nm ++ (ats.flatMap atrL ++ [62]))).length ≤ 110000 := by simp only [List.length_append, List.length_cons, List.length_nil]; omega
  have HV := Lib.hid hv
  clear hcat1 hv
  go_enter Try.func21, Try.ntmps21
  go_wp2_with fail
  refine (rVoid_any nm _).mono ?_
  rintro e W1 ⟨rfl, hW1⟩
  rw [← hW1, HV.out]
  clear hW1 W1
  go_wp2_with fail
  refine (rRaw_any nm _).mono ?_
  rintro e W1 ⟨rfl, hW1⟩
  rw [← hW1]
  clear hW1 W1
  go_wp2_with fail
  refine (RefOpen_elem hat1 hc _ hnm hf).mono ?_
  rintro e W1 ⟨rfl, b1⟩
  have hx := (b1.block _ (by simp)).trans ht
  have B1 := bt ba b1
  generalize ([60] ++ (nm ++ (ats.flatMap atrL ++ [62]))) = acc at *
  clear hat1 ht ba b1 hat
  have z1 : ¬ 9223372036854775807 < acc.length + 2 := by omega
  have z2 : ¬ 9223372036854775807 < acc.length + 2 + nm.length := by omega
  have z3 : ¬ 9223372036854775807 < acc.length + 2 + nm.length + 1 := by omega
  have cH := fun i => Lib.cell_of_heap hx i
  have c1 := cH 1
  have c4 := cH 4
  simp only [List.getElem?_toArray, List.getElem?_cons_zero, List.getElem?_cons_succ] at c1 c4
  clear cH hx
  go_wp2
  go_loopw [7, 8] (fun sv' iv wr => sv' = .string ⟨acc.toArray⟩ ∧ iv = .int .i64 0 ∧ wr = W1) (fun _ _ _ => 0)
  case atStart => exact ⟨rfl, rfl, rfl⟩
  case round =>
    obtain ⟨rfl, rfl, hW⟩ := hrel
    rw [← hW] at c1 c4 B1
    clear hW
    go_wp2
    rw [HC1.out]
    go_ret
    exact ⟨rfl, B1⟩
set_option maxHeartbeats 2000000 in
set_option maxRecDepth 100000 in
/-- strainerref04.Text of one element without kids -/
theorem RefText_elem {w : World} {A : Addr} {c : Nat} {nm : List UInt8} {A2 : Option Addr} {c2 : Nat} {ats : List Atr} {tx : List UInt8} (hA : A.block < w.heap.size) (hx : w.heap[A.block]? = some (.cells #[.int .i64 1, .string ⟨nm.toArray⟩, .slice A2 ats.length c2, .string ⟨tx.toArray⟩, .slice none 0 0] 28 (0, 0))) (hA0 : A = ⟨A.block, 0, none⟩)
    (hat : Atrs w w.heap.size A2 ats.length ats) (hc : ats.length ≤ c2) (hnm : nm.length ≤ 1000) (hf : AtFew ats) (hv : voidL nm = false) :
    Calls Try.prog 10 #[.slice (some A) 1 c] w fun e w' => e = .returned (.string ⟨(elL nm ats).toArray⟩) ∧ Below w.heap.size w w' := by
  obtain ⟨g, rfl⟩ : ∃ g, A = ⟨g, 0, none⟩ := ⟨_, hA0⟩
  clear hA0
  simp only [] at hA hx
  have hlo := atrs_len hf.2
  have hf1 := hf.1
  have hcat : (⟨#[]⟩ : ByteArray) ++ ⟨(elL nm ats).toArray⟩ = ⟨(elL nm ats).toArray⟩ := by
    have := cat_str [] (elL nm ats)
    simpa using this
  have hlen : (elL nm ats).length ≤ 200000 := by simp only [elL, List.length_append, List.length_cons, List.length_nil]; omega
  generalize htt : elL nm ats = tt at *
  have HTT := Lib.hid htt
  clear htt
  go_enter Try.func10, Try.ntmps10
  go_wp2_with fail
  go_loopw [3, 4] (fun sv' iv wr => ∃ k : Nat, sv' = .string ⟨(if k = 0 then [] else tt).toArray⟩ ∧ iv = .int .i64 k ∧ k ≤ 1 ∧ Below w.heap.size w wr) (fun _ iv _ => 1 - (intOf iv).toNat)
  case atStart => exact ⟨0, rfl, rfl, Nat.zero_le _, Below.refl _ _⟩
  case round =>
    obtain ⟨k, rfl, rfl, hk, hb⟩ := hrel
    by_cases hk0 : k = 0
    · subst hk0
      have hx1 := (hb.block _ hA).trans hx
      have hat1 : Atrs wr wr.heap.size A2 ats.length ats := (Rd.below (B := w.heap.size) hat hb).more hb.size
      have cH := fun i => Lib.cell_of_heap hx1 i
      have c0 := cH 0
      have c1 := cH 1
      have c2' := cH 2
      have c3 := cH 3
      have c4 := cH 4
      simp only [List.getElem?_toArray, List.getElem?_cons_zero, List.getElem?_cons_succ] at c0 c1 c2' c3 c4
      rw [if_pos rfl]
      clear hat cH hx1 hx
      go_wp2_with fail
      refine (RefOne_elem hat1 hc hnm hf hv).mono ?_
      rintro e W1 ⟨rfl, b1⟩
      have B1 := hb.trans (b1.mono hb.size)
      rw [HTT.out]
      go_wp2
      go_roundw
      case rel => exact ⟨1, rfl, by go_num, Nat.le_refl _, B1⟩
      case measure => simp [intOf]
    · obtain rfl : k = 1 := by omega
      rw [if_neg (by decide)]
      clear hat
      go_wp2
      go_ret
      exact ⟨rfl, hb⟩
end Go.Proofs.Ytninjljkdbemkaa
namespace Go.Proofs.Ytninjljkdbemkaa

theorem lower_self {c : UInt8} (h : ¬ (65 ≤ (c.toNat : Int) ∧ (c.toNat : Int) ≤ 90)) : lower c = c := by
  have h1 := lower_int c
  rw [if_neg h] at h1
  exact UInt8.toNat_inj.1 (by omega)
theorem lowL_self {l : List UInt8} (h : ∀ c ∈ l, ¬ (65 ≤ (c.toNat : Int) ∧ (c.toNat : Int) ≤ 90)) : lowL l = l := by
  unfold lowL
  conv => rhs; rw [← List.map_id l]
  exact List.map_congr_left fun c hc => lower_self (h c hc)
theorem attrd_parts {l : List UInt8} (h : attrdL l = true) : (∀ c ∈ l, badB c = false) ∧ l ≠ [] := by
  simp only [attrdL, Bool.and_eq_true, List.all_eq_true, Bool.not_eq_true'] at h
  refine ⟨h.1.2, fun e => ?_⟩
  rw [e] at h
  simp at h
theorem bad_no {c : UInt8} (h : badB c = false) : anB c = true ∧ skB c = false ∧ c.toNat ≠ 62 ∧ ¬ (65 ≤ (c.toNat : Int) ∧ (c.toNat : Int) ≤ 90) := by
  rw [← Bool.not_eq_true, badB_iff] at h
  refine ⟨?_, ?_, by omega, by omega⟩
  · simp only [anB, blk, Bool.and_eq_true, Bool.not_eq_true', bne_iff_ne, Bool.or_eq_false_iff, beq_eq_false_iff_ne]
    omega
  · simp only [skB, blk, Bool.or_eq_false_iff, beq_eq_false_iff_ne]
    omega
/-- a written attribute, met -/
theorem atL_written {n v R : List UInt8} (hn : attrdL n = true) : atL (n ++ ([61, 34] ++ (esc true v ++ (34 :: R)))) = ((n, v), n.length + 2 + (esc true v).length + 1) := by
  obtain ⟨h1, h2⟩ := attrd_parts hn
  have hd := dec_esc_self true v
  have hb := esc_bare true v
  generalize esc true v = e at *
  have hl : (n ++ ([61, 34] ++ (e ++ (34 :: R)))).length = n.length + (2 + (e.length + (1 + R.length))) := by simp; omega
  have d0 : (n ++ ([61, 34] ++ (e ++ (34 :: R)))).drop n.length = [61, 34] ++ (e ++ (34 :: R)) := List.drop_left
  have d1 : (n ++ ([61, 34] ++ (e ++ (34 :: R)))).drop (n.length + 1) = 34 :: (e ++ (34 :: R)) := by rw [← List.drop_drop, d0]; rfl
  have d2 : (n ++ ([61, 34] ++ (e ++ (34 :: R)))).drop (n.length + 1 + 1) = e ++ (34 :: R) := by rw [← List.drop_drop, d1]; rfl
  have hi : n.length = spanL anB (n ++ ([61, 34] ++ (e ++ (34 :: R)))) := by rw [spanL_app n _ (fun c hc => (bad_no (h1 c hc)).1)]; rfl
  have hm : e.length = spanL (noq 34) ((n ++ ([61, 34] ++ (e ++ (34 :: R)))).drop (n.length + 1 + 1)) := by
    rw [d2, spanL_app e _ (fun c hc => by
      simp only [noq, bne_iff_ne]
      intro x
      exact (hb c hc).2.2 rfl (UInt8.toNat_inj.1 x))]
    rfl
  have hx : n.length < (n ++ ([61, 34] ++ (e ++ (34 :: R)))).length := by omega
  have hy : n.length + 1 < (n ++ ([61, 34] ++ (e ++ (34 :: R)))).length := by omega
  have g0 : (n ++ ([61, 34] ++ (e ++ (34 :: R))))[n.length].toNat = 61 := by
    rw [List.getElem_append_right (Nat.le_refl _)]
    simp
  have g1 : (n ++ ([61, 34] ++ (e ++ (34 :: R))))[n.length + 1] = 34 := by
    rw [List.getElem_append_right (by omega)]
    simp
  rw [atL_4 (i := n.length) (j := n.length) (k := n.length + 1) (m := e.length) (q := 34) hi (by rw [d0]; rfl) (by rw [d1]; rfl) hx g0 hy g1 (Or.inl rfl) hm, if_neg (by omega), d2, List.take_left, List.take_left, hd,
    lowL_self (fun c hc => (bad_no (h1 c hc)).2.2.2)]
/-- attributes are unlike those ahead of them -/
def Unlike : List Atr → List Atr → Prop
  | _, [] => True
  | acc, a :: l => (valL acc a.1).isSome = false ∧ Unlike (acc ++ [a]) l
theorem begF_written : ∀ (ats : List Atr) (f : Nat) (pre rest : List UInt8) (acc : List Atr), (∀ a ∈ ats, attrdL a.1 = true) → Unlike acc ats → ats.length < f →
    begF f (pre ++ (ats.flatMap atrL ++ (62 :: rest))) pre.length acc = some (acc ++ ats, pre.length + (ats.flatMap atrL).length + 1)
  | [], f, pre, rest, acc, _, _, hf => by
    obtain ⟨f, rfl⟩ : ∃ g, f = g + 1 := ⟨f - 1, by simp at hf; omega⟩
    simp only [List.flatMap_nil, List.nil_append, List.append_nil, List.length_nil, Nat.add_zero]
    refine begF_stop (j := pre.length) ?_ (by simp) (by simp)
    rw [List.drop_left]
    rfl
  | a :: ats, f, pre, rest, acc, ha, hu, hf => by
    obtain ⟨f, rfl⟩ : ∃ g, f = g + 1 := ⟨f - 1, by simp at hf; omega⟩
    have hn := ha a (by simp)
    obtain ⟨h1, h2⟩ := attrd_parts hn
    obtain ⟨c, t, hct⟩ := List.exists_cons_of_ne_nil h2
    have hc := bad_no (h1 c (by rw [hct]; simp))
    have hR : pre ++ ((a :: ats).flatMap atrL ++ (62 :: rest)) = (pre ++ [32]) ++ (a.1 ++ ([61, 34] ++ (esc true a.2 ++ (34 :: (ats.flatMap atrL ++ (62 :: rest)))))) := by
      simp [atrL]
    have hR2 : pre ++ ((a :: ats).flatMap atrL ++ (62 :: rest)) = (pre ++ atrL a) ++ (ats.flatMap atrL ++ (62 :: rest)) := by simp
    have hd1 : (pre ++ ((a :: ats).flatMap atrL ++ (62 :: rest))).drop (pre.length + 1) = a.1 ++ ([61, 34] ++ (esc true a.2 ++ (34 :: (ats.flatMap atrL ++ (62 :: rest))))) := by
      rw [hR, show pre.length + 1 = (pre ++ [32]).length by simp, List.drop_left]
    have hsk : pre.length + 1 = pre.length + spanL skB ((pre ++ ((a :: ats).flatMap atrL ++ (62 :: rest))).drop pre.length) := by
      rw [List.drop_left]
      have : (a :: ats).flatMap atrL ++ (62 :: rest) = 32 :: (c :: (t ++ ([61, 34] ++ (esc true a.2 ++ (34 :: (ats.flatMap atrL ++ (62 :: rest))))))) := by
        simp [atrL, hct]
      rw [this, spanL, if_pos (by rfl), spanL, if_neg (by rw [hc.2.1]; simp)]
    have hlt : pre.length + 1 < (pre ++ ((a :: ats).flatMap atrL ++ (62 :: rest))).length := by
      rw [hR]; simp [hct]
    have hget : (pre ++ ((a :: ats).flatMap atrL ++ (62 :: rest)))[pre.length + 1].toNat ≠ 62 := by
      have h3 : (pre ++ ((a :: ats).flatMap atrL ++ (62 :: rest)))[pre.length + 1]? = some c := by
        rw [← List.head?_drop, hd1, hct]; rfl
      rw [List.getElem?_eq_getElem hlt] at h3
      injection h3 with h3
      rw [h3]; exact hc.2.2.1
    rw [begF_go hsk hlt hget, hd1, atL_written hn]
    simp only []
    have hu1 : (valL acc a.1).isSome = false := hu.1
    rw [hu1, if_neg (by simp), hR2]
    have hlen : pre.length + 1 + (a.1.length + 2 + (esc true a.2).length + 1) = (pre ++ atrL a).length := by simp [atrL]; omega
    rw [hlen, begF_written ats f (pre ++ atrL a) rest (acc ++ [(a.1, a.2)]) (fun x hx => ha x (by simp [hx])) hu.2 (by simp at hf; omega)]
    simp only [List.append_assoc, List.length_append, List.flatMap_cons, List.cons_append, List.nil_append, Option.some.injEq, Prod.mk.injEq, true_and]
    omega
end Go.Proofs.Ytninjljkdbemkaa
namespace Go.Proofs.Ytninjljkdbemkaa

theorem name_parts {n : List UInt8} (h : namedL n = true) : ∃ c t, n = c :: t ∧ lett c = true ∧ (∀ x ∈ n, nmB x = true ∧ x.toNat ≠ 62 ∧ ¬ (65 ≤ (x.toNat : Int) ∧ (x.toNat : Int) ≤ 90)) ∧ c.toNat ≠ 47 ∧ ¬ (c.toNat = 33 ∨ c.toNat = 63) := by
  cases n with
  | nil => simp [namedL] at h
  | cons c t =>
    simp only [namedL, Bool.and_eq_true, List.all_eq_true] at h
    have hc := h.1
    simp only [smallB, Bool.and_eq_true, decide_eq_true_eq] at hc
    refine ⟨c, t, rfl, ?_, ?_, by omega, by omega⟩
    · simp only [lett, Bool.or_eq_true, Bool.and_eq_true, decide_eq_true_eq]
      omega
    · intro x hx
      have h2 := h.2 x hx
      simp only [nameB, smallB, Bool.or_eq_true, Bool.and_eq_true, decide_eq_true_eq, beq_iff_eq] at h2
      have h45 : x = 45 → x.toNat = 45 := fun e => by rw [e]; rfl
      refine ⟨?_, ?_, ?_⟩
      · simp only [nmB, lett, Bool.or_eq_true, Bool.and_eq_true, decide_eq_true_eq, beq_iff_eq]
        rcases h2 with (h2 | h2) | h2
        · omega
        · omega
        · have := h45 h2; omega
      · rcases h2 with (h2 | h2) | h2
        · omega
        · omega
        · have := h45 h2; omega
      · rcases h2 with (h2 | h2) | h2
        · omega
        · omega
        · have := h45 h2; omega
theorem title_written {n R : List UInt8} (h : namedL n = true) (hR : spanL nmB R = 0) : titleL (n ++ R) = n.length := by
  obtain ⟨c, t, rfl, hc, ha, _, _⟩ := name_parts h
  rw [List.cons_append, titleL, if_pos hc, ← List.cons_append, spanL_app _ _ (fun x hx => (ha x hx).1), hR, Nat.add_zero]
theorem ats_head (ats : List Atr) (rest : List UInt8) : spanL nmB (ats.flatMap atrL ++ (62 :: rest)) = 0 := by
  cases ats with
  | nil => rfl
  | cons a l => rfl
theorem tag_opened {n rest : List UInt8} {ats : List Atr} (h : namedL n = true) (ha : ∀ a ∈ ats, attrdL a.1 = true) (hu : Unlike [] ats) :
    tagL (60 :: (n ++ (ats.flatMap atrL ++ (62 :: rest)))) = (⟨1, n, ats, []⟩, 1 + n.length + (ats.flatMap atrL).length + 1) := by
  have ht := title_written (R := ats.flatMap atrL ++ (62 :: rest)) h (ats_head ats rest)
  obtain ⟨c, t, hct, hc, hx, h47, h33⟩ := name_parts h
  have hst : startsL (60 :: (n ++ (ats.flatMap atrL ++ (62 :: rest)))) = true := by
    rw [hct]; simp [startsL, hc]
  have h1 : (60 :: (n ++ (ats.flatMap atrL ++ (62 :: rest))))[1]? = some c := by rw [hct]; rfl
  rw [tag_4 hst h1 h47 h33]
  unfold begL
  rw [List.drop_succ_cons, List.drop_zero, ht]
  have hlen : ∀ l : List Atr, l.length ≤ (l.flatMap atrL).length := by
    intro l
    induction l with
    | nil => exact Nat.zero_le _
    | cons a l ih => simp only [List.flatMap_cons, List.length_append, List.length_cons, atrL, List.length_nil]; omega
  have hl := hlen ats
  have hb := begF_written ats ((60 :: (n ++ (ats.flatMap atrL ++ (62 :: rest)))).length + 1) (60 :: n) rest [] ha hu (by simp only [List.length_cons, List.length_append]; omega)
  rw [List.cons_append] at hb
  rw [show (1 + n.length) = (60 :: n : List UInt8).length by simp; omega, hb]
  simp only [List.nil_append, List.take_left, List.length_cons]
  rw [lowL_self (fun x hx' => (hx x hx').2.2)]
theorem indexByte_at {v R : List UInt8} (h : ∀ x ∈ v, x ≠ 62) : Lib.indexByte (v ++ (62 :: R)) 62 = v.length := by
  induction v with
  | nil => rfl
  | cons c t ih =>
    have hc : (c == 62) = false := by rw [beq_eq_false_iff_ne]; exact h c (by simp)
    rw [List.cons_append, Lib.indexByte, hc, ih (fun x hx => h x (by simp [hx]))]
    have : (((t.length : Int)) == -1) = false := by rw [beq_eq_false_iff_ne]; omega
    rw [this]
    simp
theorem tag_closed {n rest : List UInt8} (h : namedL n = true) : tagL (60 :: 47 :: (n ++ (62 :: rest))) = (⟨2, n, [], []⟩, 2 + n.length + 1) := by
  have ht := title_written (R := 62 :: rest) h rfl
  obtain ⟨c, t, hct, hc, hx, h47, h33⟩ := name_parts h
  rw [tag_2 (c := 47) rfl rfl rfl]
  unfold endL
  have hd : (60 :: 47 :: (n ++ (62 :: rest))).drop 2 = n ++ (62 :: rest) := rfl
  have hi : Lib.indexByte (60 :: 47 :: (n ++ (62 :: rest))) 62 = ((60 :: 47 :: n : List UInt8).length : Nat) := by
    have := indexByte_at (v := 60 :: 47 :: n) (R := rest) (fun x hx' => by
      rcases List.mem_cons.1 hx' with rfl | hx'
      · decide
      rcases List.mem_cons.1 hx' with rfl | hx'
      · decide
      exact fun e => (hx x hx').2.1 (by rw [e]; rfl))
    exact this
  rw [hd, ht, hi, if_neg (by rw [hct]; simp), if_neg (by omega), List.take_left, lowL_self (fun x hx' => (hx x hx').2.2)]
  simp only [List.length_cons, Int.toNat_natCast, Prod.mk.injEq, true_and]
  omega
theorem toks_tag {l : List UInt8} {t : Tk} {k : Nat} (h : tagL l = (t, k)) (hk : k ≠ 0) (h0 : t.kind ≠ 0) (hr : ¬ (t.kind = 1 ∧ rawL t.name = true)) : toksL l = t :: toksL (l.drop k) := by
  have hne : l ≠ [] := by
    intro e
    rw [e] at h
    have : tagL [] = (noTk, 0) := rfl
    rw [this] at h
    injection h with _ h
    exact hk h.symm
  rw [toksL_round hne]
  have : tokRound l = ([t], l.drop k) := by
    unfold tokRound
    rw [h]
    simp only []
    rw [if_neg hk, if_neg h0, if_neg hr]
  rw [this]
  rfl
theorem toks_elem {n rest : List UInt8} {ats : List Atr} (h : namedL n = true) (hr : rawL n = false) (ha : ∀ a ∈ ats, attrdL a.1 = true) (hu : Unlike [] ats) :
    toksL (elL n ats ++ rest) = ⟨1, n, ats, []⟩ :: ⟨2, n, [], []⟩ :: toksL rest := by
  have e1 : elL n ats ++ rest = 60 :: (n ++ (ats.flatMap atrL ++ (62 :: (60 :: 47 :: (n ++ (62 :: rest)))))) := by simp [elL]
  have e2 : (60 :: (n ++ (ats.flatMap atrL ++ (62 :: (60 :: 47 :: (n ++ (62 :: rest))))))) = (60 :: (n ++ (ats.flatMap atrL ++ [62]))) ++ (60 :: 47 :: (n ++ (62 :: rest))) := by simp
  have d1 : (60 :: (n ++ (ats.flatMap atrL ++ (62 :: (60 :: 47 :: (n ++ (62 :: rest))))))).drop (1 + n.length + (ats.flatMap atrL).length + 1) = 60 :: 47 :: (n ++ (62 :: rest)) := by
    rw [e2, show 1 + n.length + (ats.flatMap atrL).length + 1 = (60 :: (n ++ (ats.flatMap atrL ++ [62]))).length by simp only [List.length_cons, List.length_append, List.length_nil]; omega, List.drop_left]
  have d2 : (60 :: 47 :: (n ++ (62 :: rest))).drop (2 + n.length + 1) = rest := by
    have : (60 :: 47 :: (n ++ (62 :: rest)) : List UInt8) = (60 :: 47 :: (n ++ [62])) ++ rest := by simp
    rw [this, show 2 + n.length + 1 = (60 :: 47 :: (n ++ [62]) : List UInt8).length by simp only [List.length_cons, List.length_append, List.length_nil]; omega, List.drop_left]
  rw [e1, toks_tag (tag_opened h ha hu) (by omega) (by show (1 : Int) ≠ 0; decide) (by simp [hr]), d1, toks_tag (tag_closed h) (by omega) (by show (2 : Int) ≠ 0; decide) (by simp), d2]
end Go.Proofs.Ytninjljkdbemkaa
namespace Go.Proofs.Ytninjljkdbemkaa

theorem unlike_snoc : ∀ (P acc : List Atr) (x : Atr), Unlike P acc → (valL (P ++ acc) x.1).isSome = false → Unlike P (acc ++ [x])
  | P, [], x, _, h => ⟨by simpa using h, trivial⟩
  | P, a :: acc, x, h1, h2 => ⟨h1.1, unlike_snoc (P ++ [a]) acc x h1.2 (by simpa using h2)⟩
theorem word_named (l : List UInt8) : namedL (wordL l) = true := by
  unfold wordL
  split
  · assumption
  · have h : bytesum l % 10 < 10 := Nat.mod_lt _ (by decide)
    generalize bytesum l % 10 = k at *
    have : ∀ k, k < 10 → namedL (wordTab.getD k []) = true := by decide
    exact this k h
theorem word_len {l : List UInt8} (hl : l.length ≤ 30) : (wordL l).length ≤ 30 := by
  unfold wordL
  split
  · exact hl
  · have h : bytesum l % 10 < 10 := Nat.mod_lt _ (by decide)
    generalize bytesum l % 10 = k at *
    have : ∀ k, k < 10 → (wordTab.getD k []).length ≤ 30 := by decide
    exact this k h
theorem atrn_attrd (l : List UInt8) : attrdL (atrnL l) = true := by
  unfold atrnL
  split
  · assumption
  · have h : l.length % 5 < 5 := Nat.mod_lt _ (by decide)
    generalize l.length % 5 = k at *
    have : ∀ k, k < 5 → attrdL (atrTab.getD k []) = true := by
      intro k hk
      match k, hk with
      | 0, _ => rfl
      | 1, _ => rfl
      | 2, _ => rfl
      | 3, _ => rfl
      | 4, _ => rfl
    exact this k h
theorem atrn_len {l : List UInt8} (hl : l.length ≤ 30) : (atrnL l).length ≤ 30 := by
  unfold atrnL
  split
  · exact hl
  · have h : l.length % 5 < 5 := Nat.mod_lt _ (by decide)
    generalize l.length % 5 = k at *
    have : ∀ k, k < 5 → (atrTab.getD k []).length ≤ 30 := by decide
    exact this k h
/-- attributes that may be -/
def GdA (m : Nat) (ats : List Atr) : Prop := ats.length ≤ m ∧ (∀ a ∈ ats, attrdL a.1 = true ∧ a.1.length ≤ 30 ∧ a.2.length ≤ 120) ∧ Unlike [] ats
theorem goodAts_gd : ∀ (l acc : List Atr) (m : Nat), (∀ a ∈ l, a.1.length ≤ 30 ∧ a.2.length ≤ 30) → GdA m acc → GdA (m + l.length) (l.foldl goodAt acc)
  | [], acc, m, _, h => h
  | a :: l, acc, m, hl, h => by
    have ha := hl a (by simp)
    have hr := right_length a.2
    rw [List.foldl_cons, show m + (a :: l).length = (m + 1) + l.length by simp; omega]
    refine goodAts_gd l _ (m + 1) (fun x hx => hl x (by simp [hx])) ?_
    unfold goodAt
    split
    · exact ⟨Nat.le_succ_of_le h.1, h.2⟩
    · rename_i hn
      refine ⟨by simp; exact h.1, ?_, unlike_snoc [] acc _ h.2.2 (by simpa using hn)⟩
      intro x hx
      rcases List.mem_append.1 hx with hx | hx
      · exact h.2.1 x hx
      · rw [List.mem_singleton.1 hx]
        exact ⟨atrn_attrd _, atrn_len ha.1, by simp only []; omega⟩
/-- an element that may be -/
def GdE (n : Nd) : Prop := n.kind = 1 → namedL n.name = true ∧ n.name.length ≤ 30 ∧ GdA 5 n.attrs
theorem good1_gd {n : Nd} (h : Sm1 n) : GdE (good1 n) := by
  intro hk
  obtain ⟨h1, _, h3, h4, _, _⟩ := h.parts
  by_cases hg : gKind n.kind = 1
  · rw [good1_elem n hg]
    simp only [Nd.name, Nd.attrs]
    refine ⟨word_named _, word_len h1, ?_⟩
    have := goodAts_gd n.attrs [] 0 h4 ⟨Nat.le_refl _, by simp, trivial⟩
    exact ⟨Nat.le_trans this.1 (by rw [Nat.zero_add]; exact h3), this.2⟩
  · rw [good1_other n hg] at hk
    exact absurd hk hg
theorem goodM_gd {l : List Nd} (h : SmL l) : ∀ n ∈ goodM l, GdE n := by
  induction l with
  | nil => simp [goodM]
  | cons n l ih =>
    simp only [SmL] at h
    simp only [goodM, List.mem_cons, forall_eq_or_imp]
    exact ⟨good1_gd h.1, ih h.2⟩
theorem mergeStep_gd {D : List Nd} {n : Nd} (hD : ∀ x ∈ D, GdE x) (hn : GdE n) : ∀ x ∈ mergeStep D n, GdE x := by
  by_cases h : n.kind = 2 ∧ n.text = []
  · rw [mergeStep_skip h.1 h.2]; exact hD
  · rcases List.eq_nil_or_concat D with rfl | ⟨D, o, rfl⟩
    · rw [mergeStep_nil h]; simpa using hn
    · rw [List.concat_eq_append] at hD ⊢
      by_cases h3 : n.kind = 2 ∧ o.kind = 2
      · rw [mergeStep_join h3.1 (fun e => h ⟨h3.1, e⟩) h3.2]
        intro x hx
        rcases List.mem_append.1 hx with hx | hx
        · exact hD x (by simp [hx])
        · rw [List.mem_singleton.1 hx]
          intro hk
          have : (o.withText (o.text ++ n.text)).kind = o.kind := by cases o; rfl
          rw [this, h3.2] at hk
          exact absurd hk (by decide)
      · rw [mergeStep_push h h3]
        intro x hx
        rcases List.mem_append.1 hx with hx | hx
        · exact hD x hx
        · rw [List.mem_singleton.1 hx]; exact hn
theorem fold_gd : ∀ (l D : List Nd), (∀ x ∈ l, GdE x) → (∀ x ∈ D, GdE x) → ∀ x ∈ l.foldl mergeStep D, GdE x
  | [], D, _, hD => hD
  | n :: l, D, hl, hD => fold_gd l (mergeStep D n) (fun x hx => hl x (by simp [hx])) (mergeStep_gd hD (hl n (by simp)))
theorem goodOf_gd (l : List Nd) : ∀ n ∈ goodOf l, GdE n :=
  fold_gd _ [] (goodM_gd (cutL_small l 40 (Nat.le_refl _))) (by simp)
/-- the elements that are neither void nor raw -/
def tagEl (n : Nd) : Bool := n.kind == 1 && (!rawL n.name && !voidL n.name)
def twText (l : List Nd) : List UInt8 := l.flatMap fun n => if tagEl n then elL n.name n.attrs else []
def twToks (l : List Nd) : List Tk := l.flatMap fun n => if tagEl n then [⟨1, n.name, n.attrs, []⟩, ⟨2, n.name, [], []⟩] else []
theorem tw_toks : ∀ (l : List Nd), (∀ n ∈ l, GdE n) → toksL (twText l) = twToks l
  | [], _ => rfl
  | n :: l, h => by
    have ih := tw_toks l (fun x hx => h x (by simp [hx]))
    have e1 : twText (n :: l) = (if tagEl n then elL n.name n.attrs else []) ++ twText l := rfl
    have e2 : twToks (n :: l) = (if tagEl n then [⟨1, n.name, n.attrs, []⟩, ⟨2, n.name, [], []⟩] else []) ++ twToks l := rfl
    rw [e1, e2]
    by_cases ht : tagEl n = true
    · rw [if_pos ht, if_pos ht]
      simp only [tagEl, Bool.and_eq_true, beq_iff_eq, Bool.not_eq_true'] at ht
      obtain ⟨h1, h2, h3⟩ := h n (by simp) ht.1
      rw [toks_elem h1 ht.2.1 (fun a ha => (h3.2.1 a ha).1) h3.2.2, ih]
      rfl
    · rw [if_neg ht, if_neg ht]
      exact ih
end Go.Proofs.Ytninjljkdbemkaa
namespace Go.Proofs.Ytninjljkdbemkaa
open Go.RowKit

section
variable {P : Program} {w : World} {ops : Array Oper} {rest : List Oper} {o : Oper} {a : Act} {Q : Exit → Act → World → Prop}
/-- 'out = append(out, x, y, ..)', and where the new row lies -/
theorem wpList_pushm_at (hgd : o.guard = none) (s x : Operand) (t : TypeId) (ho : o.op = .call { callee := .builtin .append, args := #[s, x], argTypes := #[t, t] })
    (base : Nat) {e : TypeId} {size bytes : Nat} (R : Row P t e size bytes) (A : Option Addr) (n c : Nat) (xs : List Value) (hs : a.eval s = .slice A n c) (hown : w.ownsRow base e size (.slice A n c) n xs)
    (m : Nat) (cs : List Value) (c1 : Nat) (hx : a.eval x = .slice (some ⟨w.heap.size, 0, none⟩) m c1) (hl : cs.length = m * size) (h1 : ∀ u ∈ cs, u.oneCell' = true)
    (h63 : n + m ≤ maxLen) (hbytes : (n + m) * bytes ≤ 140737488355328) (hbase : base ≤ w.heap.size)
    (h : ∀ A' c' w', n + m ≤ c' → w'.ownsRow base e size (.slice A' (n + m) c') (n + m) (xs ++ cs) → w.grownBy w' (Value.slice A n c).ownBlock →
      (∀ g, (Value.slice A' (n + m) c').ownBlock = some g → (Value.slice A n c).ownBlock = some g ∨ w.heap.size ≤ g) → wpList P ops Q rest (a.put o.dst (.slice A' (n + m) c')) w') :
    wpList P ops Q (o :: rest) a (w.alloc (.cells cs.toArray e)) := by
  obtain ⟨i, z, hi, hz, hsize, hby, hzs⟩ := R.ex
  have hcell : ∀ j u, cs[j]? = some u → (w.alloc (.cells cs.toArray e)).cell? ((⟨w.heap.size, 0, none⟩ : Addr).add j) = some u := fun j u hu =>
    World.news_of_block (fr := (0, 0)) (heap_alloc_new w _) j u (by simpa using hu)
  refine wpList_append_own_at _ hgd s x t ho base e i z size bytes R.und hi hz hsize hby hzs R.pos _ n xs hs (hown.alloc _) ⟨w.heap.size, 0, none⟩ m c1 cs hx hl hcell h1 h63 hbytes (by simp; omega) ?_
  intro v' w' h2 h3 _ h4
  obtain ⟨A', c', rfl, hc'⟩ := own_shape h2
  refine h A' c' w' hc' h2 ⟨h3.os, h3.tape, h3.output, Nat.le_trans (by simp) h3.size, fun k hk hne => ?_⟩ (fun g hg => ?_)
  · exact (h3.block k (by simp; omega) hne).trans (Below.heap_alloc w _ k hk)
  · rcases h4 with h4 | h4
    · exact .inl (h4 ▸ hg)
    · rw [h4] at hg
      injection hg with hg
      simp at hg
      exact .inr (by omega)
end
/-- the tokens so far, in a row of the call's own; their attributes may lie anywhere else -/
structure TwSt (w W : World) (A : Option Addr) (c : Nat) (D : List Tk) (xs : List Value) : Prop where
  own : W.ownsRow w.heap.size 31 4 (.slice A D.length c) D.length xs
  toks : TsIs W (Apart 0 W (.slice A D.length c)) D xs
  bel : Below w.heap.size w W
  cap : D.length ≤ c
theorem TwSt.step {w W W' : World} {A : Option Addr} {c : Nat} {D : List Tk} {xs : List Value} (h : TwSt w W A c D xs) (b : Below W.heap.size W W') : TwSt w W' A c D xs :=
  ⟨own_below h.own b (Nat.le_refl _), below_toks h.toks b, bt h.bel b, h.cap⟩
theorem TwSt.old {w W : World} {A : Option Addr} {c : Nat} {D : List Tk} {xs : List Value} (h : TwSt w W A c D xs) {k : Nat} (h1 : k < w.heap.size) : Apart 0 W (.slice A D.length c) k :=
  ⟨Nat.zero_le _, Nat.lt_of_lt_of_le h1 h.bel.size, fun e => by have := own_ge h.own _ e; omega⟩
theorem TwSt.got {w W : World} {A : Option Addr} {c : Nat} {D : List Tk} {xs : List Value} (h : TwSt w W A c D xs) : Toks W W.heap.size A D.length D :=
  ⟨xs, RdP.more (RdP.of_own h.own) (fun _ hb => hb.2), TsIs.more (fun _ hb => hb.2.1) h.toks⟩
theorem TwSt.push2 {w W W' : World} {A A' : Option Addr} {c c' : Nat} {D : List Tk} {xs : List Value} (h : TwSt w W A c D xs) {t u : Tk} {cs ds : List Value}
    (ht : TIs W (Apart 0 W (.slice A D.length c)) t cs) (hu : TIs W (Apart 0 W (.slice A D.length c)) u ds) (hg : W.grownBy W' (Value.slice A D.length c).ownBlock)
    (ho : W'.ownsRow w.heap.size 31 4 (.slice A' (D.length + 2) c') (D.length + 2) (xs ++ (cs ++ ds))) (hc : D.length + 2 ≤ c')
    (hat : ∀ g, (Value.slice A' (D.length + 2) c').ownBlock = some g → (Value.slice A D.length c).ownBlock = some g ∨ W.heap.size ≤ g) : TwSt w W' A' c' (D ++ [t, u]) (xs ++ (cs ++ ds)) := by
  have hl : (D ++ [t, u]).length = D.length + 2 := by simp
  refine ⟨by rw [hl]; exact ho, ?_, h.bel.grown hg h.bel.size (own_ge h.own), by rw [hl]; exact hc⟩
  rw [hl]
  exact push_toks (h.toks.append (TsIs.append (TsIs.single ht) (TsIs.single hu))) hg hat
theorem twToks_next {l : List Nd} {k : Nat} (hk : k < l.length) : twToks (l.take (k + 1)) = twToks (l.take k) ++ (if tagEl l[k] then [⟨1, l[k].name, l[k].attrs, []⟩, ⟨2, l[k].name, [], []⟩] else []) := by
  unfold twToks
  rw [List.take_succ_eq_append_getElem hk, List.flatMap_append, List.flatMap_singleton]
theorem twText_next {l : List Nd} {k : Nat} (hk : k < l.length) : twText (l.take (k + 1)) = twText (l.take k) ++ (if tagEl l[k] then elL l[k].name l[k].attrs else []) := by
  unfold twText
  rw [List.take_succ_eq_append_getElem hk, List.flatMap_append, List.flatMap_singleton]
theorem twToks_len (l : List Nd) : (twToks l).length ≤ 2 * l.length := by
  induction l with
  | nil => exact Nat.le_refl _
  | cons n l ih =>
    have e2 : twToks (n :: l) = (if tagEl n then [⟨1, n.name, n.attrs, []⟩, ⟨2, n.name, [], []⟩] else []) ++ twToks l := rfl
    rw [e2, List.length_append, List.length_cons]
    split <;> simp <;> omega
theorem AtFew.of {ats : List Atr} (h : GdA 5 ats) : AtFew ats := ⟨h.1, fun a ha => ⟨by have := (h.2.1 a ha).2.1; omega, by have := (h.2.1 a ha).2.2; omega⟩⟩
theorem atrs_small : ∀ {l : List Atr}, (∀ a ∈ l, a.1.length ≤ 30 ∧ a.2.length ≤ 120) → (l.flatMap atrL).length ≤ 3900 * l.length
  | [], _ => Nat.zero_le _
  | a :: l, h => by
    have h1 := h a (by simp)
    have h3 := (esc_length true a.2).2
    have h2 := atrs_small (l := l) (fun x hx => h x (by simp [hx]))
    simp only [List.flatMap_cons, List.length_append, List.length_cons, atrL, List.length_nil]
    omega
theorem el_len {n : Nd} (h : GdE n) (hk : n.kind = 1) : (elL n.name n.attrs).length ≤ 20000 := by
  obtain ⟨_, h2, h3⟩ := h hk
  have hf := AtFew.of h3
  have h4 := atrs_small (l := n.attrs) (fun a ha => (h3.2.1 a ha).2)
  have h5 := hf.1
  simp only [elL, List.length_append, List.length_cons, List.length_nil]
  omega
theorem twText_len {l : List Nd} (h : ∀ n ∈ l, GdE n) : (twText l).length ≤ 20000 * l.length := by
  induction l with
  | nil => exact Nat.le_refl _
  | cons n l ih =>
    have e2 : twText (n :: l) = (if tagEl n then elL n.name n.attrs else []) ++ twText l := rfl
    have ih := ih (fun x hx => h x (by simp [hx]))
    rw [e2, List.length_append, List.length_cons]
    split
    · rename_i ht
      simp only [tagEl, Bool.and_eq_true, beq_iff_eq] at ht
      have := el_len (h n (by simp)) ht.1
      omega
    · simp only [List.length_nil]; omega
theorem twToks_ats {l : List Nd} (h : ∀ n ∈ l, GdE n) : ∀ t ∈ twToks l, t.attrs.length ≤ 100000000 := by
  intro t ht
  obtain ⟨n, hn, hx⟩ := List.mem_flatMap.1 ht
  by_cases hc : tagEl n = true
  · rw [if_pos hc] at hx
    simp only [tagEl, Bool.and_eq_true, beq_iff_eq] at hc
    have h5 := (h n hn hc.1).2.2.1
    rcases List.mem_cons.1 hx with rfl | hx
    · simp only []; omega
    · rw [List.mem_singleton.1 hx]; exact Nat.zero_le _
  · rw [if_neg hc] at hx
    exact nomatch hx
end Go.Proofs.Ytninjljkdbemkaa
