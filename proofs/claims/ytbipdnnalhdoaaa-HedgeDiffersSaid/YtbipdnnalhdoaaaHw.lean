/- Weight, of the program and of the document. -/
import Derived.Test.YtbipdnnalhdoaaaHn
import Derived.Test.YtbipdnnalhdoaaaHb
namespace Go.Proofs.Ytbipdnnalhdoaaa
open Go.RowKit Go.Maps Go.WideMaps
attribute [local go_sem ↓] Go.wp_at_zero Go.wp_at_succ

/-- the tree k of a row -/
theorem trs_at {w : World} {S : Nat → Prop} {A : Option Addr} {n : Nat} {l : List Tr} (H : SlP w S 2 A n (trsC l)) {k : Nat} {t : Tr} (hk : l[k]? = some t) :
    ∃ a K c, A = some a ∧ S a.block ∧ w.cell? (a.add (k * 2)) = some (.int .i64 t.lab) ∧ w.cell? ⟨(a.add (k * 2)).block, (a.add (k * 2)).off + 1, none⟩ = some (.slice K t.kids.length c) ∧ Cap t.kids.length c ∧ SlP w S 2 K t.kids.length (trsC t.kids) := by
  have hkl : k < l.length := (List.getElem?_eq_some_iff.1 hk).1
  have hkt : l[k] = t := (List.getElem?_eq_some_iff.1 hk).2
  obtain ⟨h0, h1⟩ := trsC_at hkl
  rw [hkt] at h0 h1
  obtain ⟨a, e1, hS, h2⟩ := H.atInt h0
  obtain ⟨a', K, c, e2, _, h3, h4, h5⟩ := H.atSl h1
  rw [e1] at e2
  injection e2 with e2
  subst e2
  exact ⟨a, K, c, e1, hS, h2, by rw [← add_pos _ 1 (by omega), add_add]; exact h3, h4, h5⟩
theorem wtTs_take {l : List Tr} {k : Nat} {t : Tr} (hk : l[k]? = some t) : wtTs (l.take (k + 1)) = wtTs (l.take k) + (1 + wtTs t.kids) := by
  have hkl : k < l.length := (List.getElem?_eq_some_iff.1 hk).1
  rw [List.take_succ_eq_append_getElem hkl, wtTs_append, (List.getElem?_eq_some_iff.1 hk).2, wtTs, wtTs, wtT_eq]
  omega
theorem wtTs_takele (l : List Tr) (k : Nat) : wtTs (l.take k) ≤ wtTs l := by
  conv => rhs; rw [← List.take_append_drop k l]
  rw [wtTs_append]
  omega
def WtOk (F : FuncId) (l : List Tr) : Prop := ∀ (w : World) (A : Option Addr) (c : Nat), SlP w (fun b => b < w.heap.size) 2 A l.length (trsC l) → wtTs l ≤ 1000000000000 →
  Calls Try.prog F #[.slice A l.length c] w fun e w' => e = .returned (.int .i64 (wtTs l : Int)) ∧ Below w.heap.size w w'

set_option maxHeartbeats 1000000 in
set_option maxRecDepth 100000 in
theorem weight_step (l : List Tr) (ih : ∀ l', wtTs l' < wtTs l → WtOk 18 l') : WtOk 18 l := by
  intro w A c hT hw
  have IH := Lib.hid ih
  have HT := Lib.hid hT
  have hlen := wtTs_ge l
  obtain ⟨W, hW⟩ : ∃ W, W = wtTs l := ⟨_, rfl⟩
  clear hT ih
  go_enter Try.func18, Try.ntmps18
  go_wp2
  go_loopw [8, 3] (fun iv sv wr => ∃ i : Nat, iv = .int .i64 i ∧ i ≤ l.length ∧ sv = .int .i64 (wtTs (l.take i) : Int) ∧ Below w.heap.size w wr) (fun iv _ _ => l.length - (intOf iv).toNat)
  case atStart => exact ⟨0, rfl, Nat.zero_le _, by simp [wtTs], Below.refl _ _⟩
  case round =>
    obtain ⟨i, rfl, hi, rfl, hb⟩ := hrel
    by_cases hlt : i < l.length
    · obtain ⟨t, ht⟩ : ∃ t, l[i]? = some t := ⟨_, List.getElem?_eq_getElem hlt⟩
      have htk := wtTs_take ht
      have hle := wtTs_takele l (i + 1)
      obtain ⟨a, K, kc, rfl, hab, k0, k1, hcp, hkt⟩ := trs_at (SlP.more (SlP.keep HT.out fun p hp => hb.cell hp) fun b hb' => Nat.lt_of_lt_of_le hb' hb.size) ht
      have hal := (Below.refl _ wr).alloc (Nat.le_refl _) (.cells #[.int .i64 t.lab, .slice K t.kids.length kc] 38)
      have hxn := heap_alloc_new wr (.cells #[.int .i64 t.lab, .slice K t.kids.length kc] 38)
      have HC := Lib.hid (IH.out t.kids (by omega) (wr.alloc (.cells #[.int .i64 t.lab, .slice K t.kids.length kc] 38)) K kc (SlP.more (SlP.keep hkt fun p hp => hal.cell hp) fun b hb' => Nat.lt_of_lt_of_le hb' hal.size) (by omega))
      have HB := Lib.hid (hb.trans (hal.mono hb.size))
      have HBS := Lib.hid hal.size
      have HTK := Lib.hid htk
      have hiI : (i : Int) < (l.length : Int) := by omega
      have hi0 : (0 : Int) ≤ (i : Int) := by omega
      have hsb : wtTs (l.take i) ≤ 1000000000000 := by omega
      have hsb2 : wtTs (l.take i) + (1 + wtTs t.kids) ≤ 1000000000000 := by omega
      clear ht htk hkt hb hal
      generalize wtTs (l.take i) = si at *
      generalize wtTs t.kids = sk at *
      go_upto_region 5 with fail
      have y1 := Lib.cell_of_heap hxn 1
      simp only [List.getElem?_toArray, List.getElem?_cons_zero, List.getElem?_cons_succ] at y1
      generalize wr.alloc (.cells #[.int .i64 t.lab, .slice K t.kids.length kc] 38) = W4 at *
      clear hxn
      go_wp2_with fail
      refine HC.out.mono ?_
      rintro e W5 ⟨rfl, b5⟩
      have HB5 := Lib.hid (HB.out.trans (b5.mono HB.out.size))
      clear b5
      go_wp2
      go_roundw
      case rel => exact ⟨i + 1, by go_num, by omega, by rw [HTK.out]; congr 1, HB5.out⟩
      case measure => simp [intOf]; omega
    · obtain rfl : i = l.length := by omega
      have HB := Lib.hid hb
      clear hb
      rw [List.take_length]
      go_wp2
      go_ret
      exact ⟨rfl, HB.out⟩
theorem weight_any (l : List Tr) : WtOk 18 l := by
  suffices h : ∀ k, ∀ l, wtTs l ≤ k → WtOk 18 l from h _ l (Nat.le_refl _)
  intro k
  induction k with
  | zero => intro l hl; exact weight_step l (fun l' h => by omega)
  | succ k ih => intro l hl; exact weight_step l (fun l' h => ih l' (by omega))
set_option maxHeartbeats 1000000 in
set_option maxRecDepth 100000 in
theorem rweight_step (l : List Tr) (ih : ∀ l', wtTs l' < wtTs l → WtOk 19 l') : WtOk 19 l := by
  intro w A c hT hw
  have IH := Lib.hid ih
  have HT := Lib.hid hT
  have hlen := wtTs_ge l
  clear hT ih
  go_enter Try.func19, Try.ntmps19
  go_wp2
  go_loopw [4, 3] (fun iv sv wr => ∃ i : Nat, iv = .int .i64 i ∧ i ≤ l.length ∧ sv = .int .i64 (wtTs (l.take i) : Int) ∧ Below w.heap.size w wr) (fun iv _ _ => l.length - (intOf iv).toNat)
  case atStart => exact ⟨0, rfl, Nat.zero_le _, by simp [wtTs], Below.refl _ _⟩
  case round =>
    obtain ⟨i, rfl, hi, rfl, hb⟩ := hrel
    by_cases hlt : i < l.length
    · obtain ⟨t, ht⟩ : ∃ t, l[i]? = some t := ⟨_, List.getElem?_eq_getElem hlt⟩
      have htk := wtTs_take ht
      have hle := wtTs_takele l (i + 1)
      obtain ⟨a, K, kc, rfl, hab, k0, k1, hcp, hkt⟩ := trs_at (SlP.more (SlP.keep HT.out fun p hp => hb.cell hp) fun b hb' => Nat.lt_of_lt_of_le hb' hb.size) ht
      have HC := Lib.hid (IH.out t.kids (by omega) wr K kc hkt (by omega))
      have HB := Lib.hid hb
      have HTK := Lib.hid htk
      have hiI : (i : Int) < (l.length : Int) := by omega
      have hi0 : (0 : Int) ≤ (i : Int) := by omega
      have hsb : wtTs (l.take i) ≤ 1000000000000 := by omega
      have hsb2 : wtTs (l.take i) + (1 + wtTs t.kids) ≤ 1000000000000 := by omega
      clear ht htk hkt hb
      generalize wtTs (l.take i) = si at *
      generalize wtTs t.kids = sk at *
      go_wp2_with fail
      refine HC.out.mono ?_
      rintro e W5 ⟨rfl, b5⟩
      have HB5 := Lib.hid (HB.out.trans (b5.mono HB.out.size))
      clear b5
      go_wp2
      go_roundw
      case rel => exact ⟨i + 1, by go_num, by omega, by rw [HTK.out]; congr 1; omega, HB5.out⟩
      case measure => simp [intOf]; omega
    · obtain rfl : i = l.length := by omega
      have HB := Lib.hid hb
      clear hb
      rw [List.take_length]
      go_wp2
      go_ret
      exact ⟨rfl, HB.out⟩
theorem rweight_any (l : List Tr) : WtOk 19 l := by
  suffices h : ∀ k, ∀ l, wtTs l ≤ k → WtOk 19 l from h _ l (Nat.le_refl _)
  intro k
  induction k with
  | zero => intro l hl; exact rweight_step l (fun l' h => by omega)
  | succ k ih => intro l hl; exact rweight_step l (fun l' h => ih l' (by omega))
end Go.Proofs.Ytbipdnnalhdoaaa
