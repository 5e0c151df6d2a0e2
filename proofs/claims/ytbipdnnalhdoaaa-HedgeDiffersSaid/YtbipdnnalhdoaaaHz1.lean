/- May of the program; the law's lives. -/
import Derived.Test.YtbipdnnalhdoaaaHu
import Derived.Test.YtbipdnnalhdoaaaHy
namespace Go.Proofs.Ytbipdnnalhdoaaa
open Go.RowKit Go.Maps Go.WideMaps
attribute [local go_sem ↓] Go.wp_at_zero Go.wp_at_succ

/-- OK (0) or ErrArg (1) -/
def TellE (P : Prop) (w : World) (e : Ending) (w' : World) : Prop := ∃ z : Int, e = .returned (.int .i64 z) ∧ ((z = 0 ∧ P) ∨ (z = 1 ∧ ¬ P)) ∧ Below w.heap.size w w'
def MayP (h : Hd) : Prop := h.K ≤ 200 ∧ SoundP h ∧ (∀ (k : Nat) (s : Sd), h.labs[k]? = some s → s.out.length ≤ 200) ∧ h.root.out.length ≤ 200
set_option maxHeartbeats 2000000 in
set_option maxRecDepth 100000 in
theorem May_any {w : World} {h : Hd} {A B C : Option Addr} {c c1 c2 : Nat} (H : HdV w (fun b => b < w.heap.size) h A c B c1 C c2) :
    Calls Try.prog 9 #[hdVal h A c B c1 C c2] w (TellE (MayP h) w) := by
  have hB0 := (Below.refl _ w).alloc (Nat.le_refl _) (.cells #[.int .i64 h.K, .slice A h.labs.length c, .slice B h.root.nx.length c1, .slice C h.root.out.length c2] 28)
  have hx0 := heap_alloc_new w (.cells #[.int .i64 h.K, .slice A h.labs.length c, .slice B h.root.nx.length c1, .slice C h.root.out.length c2] 28)
  have H1 := H.on hB0
  have HPD : MayP h ↔ (h.K ≤ 200 ∧ SoundP h ∧ (∀ (k : Nat) (s : Sd), h.labs[k]? = some s → s.out.length ≤ 200) ∧ h.root.out.length ≤ 200) := Iff.rfl
  generalize hP : MayP h = P at *
  clear hP
  have hlb := H.le.len
  go_enter Try.func9, Try.ntmps9
  go_upto_region 1 with fail
  generalize w.alloc (.cells #[.int .i64 h.K, .slice A h.labs.length c, .slice B h.root.nx.length c1, .slice C h.root.out.length c2] 28) = W1 at *
  have x0 := Lib.cell_of_heap hx0 0
  have x1 := Lib.cell_of_heap hx0 1
  have x2 := Lib.cell_of_heap hx0 2
  have x3 := Lib.cell_of_heap hx0 3
  simp only [List.getElem?_toArray, List.getElem?_cons_zero, List.getElem?_cons_succ] at x0 x1 x2 x3
  have HP := Lib.hid HPD
  have HB := Lib.hid hB0
  have HV := Lib.hid H1
  have HX := Lib.hid hx0
  have hwl := (Array.getElem?_eq_some_iff.1 hx0).1
  clear HPD hB0 hx0 H1 H
  by_cases h0 : (200 : Int) < h.K
  · have HN := Lib.hid (show ¬ P from fun h => by have := (HP.out.1 h).1; omega)
    go_wp2
    go_ret
    exact ⟨1, rfl, .inr ⟨rfl, HN.out⟩, HB.out⟩
  · have HR := Lib.hid (sound_any HV.out)
    go_wp2_with fail
    refine HR.out.mono ?_
    rintro e W2 ⟨b, rfl, hb, b2⟩
    have HB2 := Lib.hid b2
    have HBW := Lib.hid (HB.out.trans (b2.mono HB.out.size))
    clear b2
    cases b with
    | false =>
      have HN := Lib.hid (show ¬ P from fun h => by have := hb.2 (HP.out.1 h).2.1; cases this)
      clear hb
      go_wp2
      go_ret
      exact ⟨1, rfl, .inr ⟨rfl, HN.out⟩, HBW.out⟩
    | true =>
      have HRT := Lib.hid (hb.1 rfl)
      have hx2 := (HB2.out.block _ hwl).trans HX.out
      replace x0 := Lib.cell_of_heap hx2 0
      replace x1 := Lib.cell_of_heap hx2 1
      replace x2 := Lib.cell_of_heap hx2 2
      replace x3 := Lib.cell_of_heap hx2 3
      simp only [List.getElem?_toArray, List.getElem?_cons_zero, List.getElem?_cons_succ] at x0 x1 x2 x3
      have HX2 := Lib.hid hx2
      have HV2 := Lib.hid (HV.out.on HB2.out)
      have hwl2 := (Array.getElem?_eq_some_iff.1 hx2).1
      clear hb hx2
      go_wp2
      go_loopw [16] (fun iv wr => ∃ i : Nat, iv = .int .i64 i ∧ i ≤ h.labs.length ∧ Hid (∀ (j : Nat) (s : Sd), j < i → h.labs[j]? = some s → s.out.length ≤ 200) ∧ Below W2.heap.size W2 wr) (fun iv _ => h.labs.length - (intOf iv).toNat)
      case atStart => exact ⟨0, rfl, Nat.zero_le _, (fun j s hj => by omega), Below.refl _ _⟩
      case round =>
        obtain ⟨i, rfl, hi, hall, hbr⟩ := hrel
        have hx3 := (hbr.block _ hwl2).trans HX2.out
        have z3 := Lib.cell_of_heap hx3 3
        simp only [List.getElem?_toArray, List.getElem?_cons_zero, List.getElem?_cons_succ] at z3
        have HBR := Lib.hid hbr
        have HVr := Lib.hid (HV2.out.on hbr)
        clear hbr hx3
        by_cases hlt : i < h.labs.length
        · obtain ⟨s, hs⟩ : ∃ s, h.labs[i]? = some s := ⟨_, List.getElem?_eq_getElem hlt⟩
          obtain ⟨a, B', c1', C', c2', rfl, hab, k0, k1, hsd⟩ := labs_at HVr.out.labs hs
          have hiI : (i : Int) < (h.labs.length : Int) := by omega
          have hi0 : (0 : Int) ≤ (i : Int) := by omega
          have hal := (Below.refl _ wr).alloc (Nat.le_refl _) (.cells #[.slice B' s.nx.length c1', .slice C' s.out.length c2'] 26)
          have hxa := heap_alloc_new wr (.cells #[.slice B' s.nx.length c1', .slice C' s.out.length c2'] 26)
          have HS := Lib.hid hs
          have hbw := HBR.out.trans (hal.mono HBR.out.size)
          have HBA := Lib.hid hbw
          have HBF := Lib.hid (HBW.out.trans (hbw.mono HBW.out.size))
          have hyz := Lib.cell_of_heap hxa 1
          simp only [List.getElem?_toArray, List.getElem?_cons_zero, List.getElem?_cons_succ] at hyz
          have hol := hsd.le2.len
          clear hs hsd hal hxa hbw
          go_upto_region 6 with fail
          generalize wr.alloc (.cells #[.slice B' s.nx.length c1', .slice C' s.out.length c2'] 26) = W4 at *
          by_cases hq : (200 : Int) < (s.out.length : Int)
          · have HN := Lib.hid (show ¬ P from fun h => by have := (HP.out.1 h).2.2.1 i s HS.out; omega)
            go_wp2
            go_ret
            exact ⟨1, rfl, .inr ⟨rfl, HN.out⟩, HBF.out⟩
          · have HAA := Lib.hid (show ∀ (j : Nat) (s : Sd), j < i + 1 → h.labs[j]? = some s → s.out.length ≤ 200 from fun j s' hj hs' => by
              rcases Nat.lt_or_ge j i with h9 | h9
              · exact hall.out j s' h9 hs'
              · obtain rfl : j = i := by omega
                rw [HS.out] at hs'
                injection hs' with hs'
                subst hs'
                omega)
            go_wp2
            go_roundw
            case rel => exact ⟨i + 1, by go_num, by omega, HAA.out, HBA.out⟩
            case measure => simp [intOf]; omega
        · obtain rfl : i = h.labs.length := by omega
          have HAL := Lib.hid (show ∀ (k : Nat) (s : Sd), h.labs[k]? = some s → s.out.length ≤ 200 from fun k s hk => hall.out k s (by
            rcases Nat.lt_or_ge k h.labs.length with h9 | h9
            · exact h9
            · rw [List.getElem?_eq_none h9] at hk; cases hk) hk)
          have HBF := Lib.hid (HBW.out.trans (HBR.out.mono HBW.out.size))
          by_cases hq : (200 : Int) < (h.root.out.length : Int)
          · have HN := Lib.hid (show ¬ P from fun h => by have := (HP.out.1 h).2.2.2; omega)
            go_wp2
            go_ret
            exact ⟨1, rfl, .inr ⟨rfl, HN.out⟩, HBF.out⟩
          · have HY := Lib.hid (HP.out.2 ⟨by omega, HRT.out, HAL.out, by omega⟩)
            go_wp2
            go_ret
            exact ⟨0, rfl, .inl ⟨rfl, HY.out⟩, HBF.out⟩
end Go.Proofs.Ytbipdnnalhdoaaa
