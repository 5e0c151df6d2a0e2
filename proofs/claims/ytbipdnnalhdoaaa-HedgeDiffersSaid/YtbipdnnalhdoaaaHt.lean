/- right, sound, May. -/
import Derived.Test.YtbipdnnalhdoaaaHq
namespace Go.Proofs.Ytbipdnnalhdoaaa
open Go.RowKit Go.Maps Go.WideMaps
attribute [local go_sem ↓] Go.wp_at_zero Go.wp_at_succ

/-- row i of a side is right -/
def RowP (s : Sd) (K o : Int) (i : Nat) : Prop := ∃ x r, s.out[i]? = some x ∧ 0 ≤ x ∧ x < o ∧ s.nx[i]? = some r ∧ (r.length : Int) = K ∧ ∀ y ∈ r, 0 ≤ y ∧ y < s.out.length
/-- a side reads K, and tells less than o -/
def RightP (s : Sd) (K o : Int) : Prop := 0 < s.out.length ∧ s.nx.length = s.out.length ∧ ∀ i, i < s.out.length → RowP s K o i
/-- a truth told -/
def TellB (P : Prop) (w : World) (e : Ending) (w' : World) : Prop := ∃ b, e = .returned (.bool b) ∧ (b = true ↔ P) ∧ Below w.heap.size w w'
theorem TellB.yes {P : Prop} {w w' : World} (h : P) (hb : Below w.heap.size w w') : TellB P w (.returned (.bool true)) w' := ⟨true, rfl, ⟨fun _ => h, fun _ => rfl⟩, hb⟩
theorem TellB.no {P : Prop} {w w' : World} (h : ¬ P) (hb : Below w.heap.size w w') : TellB P w (.returned (.bool false)) w' := ⟨false, rfl, ⟨(fun e => by cases e), fun e => absurd e h⟩, hb⟩

set_option maxHeartbeats 2000000 in
set_option maxRecDepth 100000 in
theorem right_any {w : World} {s : Sd} {B C : Option Addr} {c1 c2 : Nat} (H : SdV w (fun b => b < w.heap.size) s B c1 C c2) (K o : Int) :
    Calls Try.prog 42 #[sdVal s B c1 C c2, .int .i64 K, .int .i64 o] w (TellB (RightP s K o) w) := by
  have hB0 := (Below.refl _ w).alloc (Nat.le_refl _) (.cells #[.slice B s.nx.length c1, .slice C s.out.length c2] 26)
  have hx0 := heap_alloc_new w (.cells #[.slice B s.nx.length c1, .slice C s.out.length c2] 26)
  have H1 := H.on hB0
  have HPD : RightP s K o ↔ (0 < s.out.length ∧ s.nx.length = s.out.length ∧ ∀ i, i < s.out.length → RowP s K o i) := Iff.rfl
  generalize hP : RightP s K o = P at *
  clear hP
  obtain ⟨on, hon⟩ : ∃ on, on = s.out.length := ⟨_, rfl⟩
  obtain ⟨nn, hnn⟩ : ∃ nn, nn = s.nx.length := ⟨_, rfl⟩
  go_enter Try.func42, Try.ntmps42
  go_upto_region 1 with fail
  generalize w.alloc (.cells #[.slice B s.nx.length c1, .slice C s.out.length c2] 26) = W1 at *
  have x0 := Lib.cell_of_heap hx0 0
  have x1 := Lib.cell_of_heap hx0 1
  simp only [List.getElem?_toArray, List.getElem?_cons_zero, List.getElem?_cons_succ] at x0 x1
  rw [← hon, ← hnn] at HPD
  rw [← hnn] at x0
  rw [← hon] at x1
  have HP := Lib.hid HPD
  have HB := Lib.hid hB0
  have HV := Lib.hid H1
  have HE := Lib.hid (And.intro hon hnn)
  have hob : on ≤ 9223372036854775807 := by rw [hon]; exact H.le2.len
  clear HPD hB0 hx0 H1 H hon hnn
  by_cases h0 : on = 0
  · have HN := Lib.hid (show ¬ P from fun h => by have := (HP.out.1 h).1; omega)
    have h1 : (on : Int) < 1 := by omega
    clear h0
    go_wp2
    go_ret
    exact TellB.no HN.out HB.out
  · have h1 : ¬ (on : Int) < 1 := by omega
    by_cases hl : nn = on
    · have hb : ((nn : Int) == (on : Int)) = true := by simp [hl]
      have HL := Lib.hid hl
      clear hl
      go_wp2
      go_loop [27] (fun iv => ∃ i : Nat, iv = .int .i64 i ∧ i ≤ on ∧ Hid (∀ j, j < i → RowP s K o j)) (fun iv => on - (intOf iv).toNat)
      case atStart => exact ⟨0, rfl, Nat.zero_le _, fun j hj => by omega⟩
      case round =>
        obtain ⟨i, rfl, hi, hall⟩ := hrel
        by_cases hlt : i < on
        · obtain ⟨x, hx⟩ : ∃ x, s.out[i]? = some x := ⟨s.out[i]'(by rw [← HE.out.1]; exact hlt), List.getElem?_eq_getElem _⟩
          obtain ⟨r, hr⟩ : ∃ r, s.nx[i]? = some r := ⟨s.nx[i]'(by rw [← HE.out.2, HL.out]; exact hlt), List.getElem?_eq_getElem _⟩
          obtain ⟨a, rfl, hab, k0⟩ := ints_at' HV.out.out hx
          obtain ⟨a2, R, rc, rfl, hab2, k1, hrc, hrow⟩ := HV.out.row_at hr
          have hrb := hrc.len
          have hnI : (i : Int) < (nn : Int) := by have := HL.out; omega
          have hoI : (i : Int) < (on : Int) := by omega
          have hi0 : (0 : Int) ≤ (i : Int) := by omega
          have HXR := Lib.hid (And.intro hx hr)
          have HROW := Lib.hid hrow
          clear hx hr hrow
          have HNO := Lib.hid (show ¬ (0 ≤ x ∧ x < o ∧ (r.length : Int) = K) → ¬ P from fun hn h => by
            obtain ⟨x', r', e1, e2, e3, e4, e5, _⟩ := (HP.out.1 h).2.2 i hlt
            rw [HXR.out.1] at e1
            rw [HXR.out.2] at e4
            injection e1 with e1
            injection e4 with e4
            subst e1 e4
            exact hn ⟨e2, e3, e5⟩)
          by_cases q1 : x < 0
          · have HN := Lib.hid (HNO.out (fun h => by omega))
            go_wp2
            go_ret
            exact TellB.no HN.out HB.out
          · by_cases q2 : o ≤ x
            · have HN := Lib.hid (HNO.out (fun h => by omega))
              go_wp2
              go_ret
              exact TellB.no HN.out HB.out
            · by_cases q3 : (r.length : Int) = K
              · have q3b : ((r.length : Int) == K) = true := by simp [q3]
                have HQ3 := Lib.hid q3
                clear q3
                go_wp2
                go_loop [55] (fun jv => ∃ j : Nat, jv = .int .i64 j ∧ j ≤ r.length ∧ Hid (∀ k y, k < j → r[k]? = some y → 0 ≤ y ∧ y < on)) (fun jv => r.length - (intOf jv).toNat)
                case atStart => exact ⟨0, rfl, Nat.zero_le _, fun k y hk => by omega⟩
                case round =>
                  obtain ⟨j, rfl, hj, hin⟩ := hrel
                  by_cases hjl : j < r.length
                  · obtain ⟨y, hy⟩ : ∃ y, r[j]? = some y := ⟨r[j], List.getElem?_eq_getElem _⟩
                    obtain ⟨a3, rfl, hab3, k2⟩ := ints_at' HROW.out hy
                    have hjI : (j : Int) < (r.length : Int) := by omega
                    have hj0 : (0 : Int) ≤ (j : Int) := by omega
                    have HY := Lib.hid hy
                    clear hy
                    have HNY := Lib.hid (show ¬ (0 ≤ y ∧ y < (on : Int)) → ¬ P from fun hn h => by
                      obtain ⟨x', r', e1, e2, e3, e4, e5, e6⟩ := (HP.out.1 h).2.2 i hlt
                      rw [HXR.out.2] at e4
                      injection e4 with e4
                      subst e4
                      have := e6 y (List.mem_of_getElem? HY.out)
                      rw [← HE.out.1] at this
                      exact hn this)
                    by_cases w1 : y < 0
                    · have HN := Lib.hid (HNY.out (fun h => by omega))
                      go_wp2
                      go_ret
                      exact TellB.no HN.out HB.out
                    · by_cases w2 : (on : Int) ≤ y
                      · have HN := Lib.hid (HNY.out (fun h => by omega))
                        go_wp2
                        go_ret
                        exact TellB.no HN.out HB.out
                      · have HS := Lib.hid (show ∀ k z, k < j + 1 → r[k]? = some z → 0 ≤ z ∧ z < (on : Int) from fun k z hk hz => by
                          rcases Nat.lt_or_ge k j with h9 | h9
                          · exact hin.out k z h9 hz
                          · obtain rfl : k = j := by omega
                            rw [HY.out] at hz
                            injection hz with hz
                            omega)
                        go_wp2
                        go_round
                        case rel => exact ⟨j + 1, by go_num, by omega, HS.out⟩
                        case measure => simp [intOf]; omega
                  · obtain rfl : j = r.length := by omega
                    have HS := Lib.hid (show ∀ j, j < i + 1 → RowP s K o j from fun j hj => by
                      rcases Nat.lt_or_ge j i with h9 | h9
                      · exact hall.out j h9
                      · obtain rfl : j = i := by omega
                        refine ⟨x, r, HXR.out.1, by omega, by omega, HXR.out.2, HQ3.out, fun y hy => ?_⟩
                        obtain ⟨k, hk, rfl⟩ := List.mem_iff_getElem.1 hy
                        have := hin.out k _ hk (List.getElem?_eq_getElem hk)
                        rw [HE.out.1] at this
                        exact this)
                    go_wp2
                    go_round
                    case rel => exact ⟨i + 1, by go_num, by omega, HS.out⟩
                    case measure => simp [intOf]; omega
              · have q3b : ((r.length : Int) == K) = false := by simp [q3]
                have HN := Lib.hid (HNO.out (fun h => q3 h.2.2))
                clear q3
                go_wp2
                go_ret
                exact TellB.no HN.out HB.out
        · obtain rfl : i = on := by omega
          have HY := Lib.hid (HP.out.2 ⟨by omega, HL.out, hall.out⟩)
          go_wp2
          go_ret
          exact TellB.yes HY.out HB.out
    · have hb : ((nn : Int) == (on : Int)) = false := by simp; omega
      have HN := Lib.hid (show ¬ P from fun h => hl (HP.out.1 h).2.1)
      clear hl
      go_wp2
      go_ret
      exact TellB.no HN.out HB.out

/-- an automaton may be, but for how many states there are -/
def SoundP (h : Hd) : Prop := 1 ≤ h.K ∧ RightP h.root h.K 2 ∧ ∀ (k : Nat) (s : Sd), h.labs[k]? = some s → RightP s h.K h.K
theorem TellB.mono {P Q : Prop} {w w1 w' : World} {e : Ending} (h : TellB P w e w') (hq : P ↔ Q) : TellB Q w e w' := by
  obtain ⟨b, h1, h2, h3⟩ := h
  exact ⟨b, h1, h2.trans hq, h3⟩
set_option maxHeartbeats 2000000 in
set_option maxRecDepth 100000 in
theorem sound_any {w : World} {h : Hd} {A B C : Option Addr} {c c1 c2 : Nat} (H : HdV w (fun b => b < w.heap.size) h A c B c1 C c2) :
    Calls Try.prog 29 #[hdVal h A c B c1 C c2] w (TellB (SoundP h) w) := by
  have hB0 := (Below.refl _ w).alloc (Nat.le_refl _) (.cells #[.int .i64 h.K, .slice A h.labs.length c, .slice B h.root.nx.length c1, .slice C h.root.out.length c2] 28)
  have hx0 := heap_alloc_new w (.cells #[.int .i64 h.K, .slice A h.labs.length c, .slice B h.root.nx.length c1, .slice C h.root.out.length c2] 28)
  have H1 := H.on hB0
  have HPD : SoundP h ↔ (1 ≤ h.K ∧ RightP h.root h.K 2 ∧ ∀ (k : Nat) (s : Sd), h.labs[k]? = some s → RightP s h.K h.K) := Iff.rfl
  generalize hP : SoundP h = P at *
  clear hP
  have hlb := H.le.len
  go_enter Try.func29, Try.ntmps29
  go_upto_region 1 with fail
  generalize w.alloc (.cells #[.int .i64 h.K, .slice A h.labs.length c, .slice B h.root.nx.length c1, .slice C h.root.out.length c2] 28) = W1 at *
  have x0 := Lib.cell_of_heap hx0 0
  have x1 := Lib.cell_of_heap hx0 1
  have x2 := Lib.cell_of_heap hx0 2
  have x3 := Lib.cell_of_heap hx0 3
  simp only [List.getElem?_toArray, List.getElem?_cons_zero, List.getElem?_cons_succ] at x0 x1 x2 x3
  have HP := Lib.hid HPD
  have HB := Lib.hid hB0
  have HV := Lib.hid H1
  have HX := Lib.hid hx0
  have hwl := (Array.getElem?_eq_some_iff.1 hx0).1
  clear HPD hB0 hx0 H1 H
  by_cases h0 : h.K < 1
  · have HN := Lib.hid (show ¬ P from fun h => by have := (HP.out.1 h).1; omega)
    go_wp2
    go_ret
    exact TellB.no HN.out HB.out
  · have HR := Lib.hid (right_any HV.out.root h.K 2)
    go_wp2_with fail
    refine HR.out.mono ?_
    rintro e W2 ⟨b, rfl, hb, b2⟩
    have HB2 := Lib.hid b2
    have HBW := Lib.hid (HB.out.trans (b2.mono HB.out.size))
    clear b2
    cases b with
    | false =>
      have HN := Lib.hid (show ¬ P from fun h => by have := hb.2 (HP.out.1 h).2.1; cases this)
      clear hb
      go_wp2
      go_ret
      exact TellB.no HN.out HBW.out
    | true =>
      have HRT := Lib.hid (hb.1 rfl)
      have hx2 := (HB2.out.block _ hwl).trans HX.out
      replace x0 := Lib.cell_of_heap hx2 0
      replace x1 := Lib.cell_of_heap hx2 1
      replace x2 := Lib.cell_of_heap hx2 2
      replace x3 := Lib.cell_of_heap hx2 3
      simp only [List.getElem?_toArray, List.getElem?_cons_zero, List.getElem?_cons_succ] at x0 x1 x2 x3
      have HX2 := Lib.hid hx2
      have HV2 := Lib.hid (HV.out.on HB2.out)
      have hwl2 := (Array.getElem?_eq_some_iff.1 hx2).1
      clear hb hx2
      go_wp2
      go_loopw [19] (fun iv wr => ∃ i : Nat, iv = .int .i64 i ∧ i ≤ h.labs.length ∧ Hid (∀ (j : Nat) (s : Sd), j < i → h.labs[j]? = some s → RightP s h.K h.K) ∧ Below W2.heap.size W2 wr) (fun iv _ => h.labs.length - (intOf iv).toNat)
      case atStart => exact ⟨0, rfl, Nat.zero_le _, (fun j s hj => by omega), Below.refl _ _⟩
      case round =>
        obtain ⟨i, rfl, hi, hall, hbr⟩ := hrel
        have hx3 := (hbr.block _ hwl2).trans HX2.out
        have z0 := Lib.cell_of_heap hx3 0
        simp only [List.getElem?_toArray, List.getElem?_cons_zero] at z0
        have HBR := Lib.hid hbr
        have HVr := Lib.hid (HV2.out.on hbr)
        clear hbr hx3
        by_cases hlt : i < h.labs.length
        · obtain ⟨s, hs⟩ : ∃ s, h.labs[i]? = some s := ⟨_, List.getElem?_eq_getElem hlt⟩
          obtain ⟨a, B', c1', C', c2', rfl, hab, k0, k1, hsd⟩ := labs_at HVr.out.labs hs
          have hiI : (i : Int) < (h.labs.length : Int) := by omega
          have hi0 : (0 : Int) ≤ (i : Int) := by omega
          have hal := (Below.refl _ wr).alloc (Nat.le_refl _) (.cells #[.slice B' s.nx.length c1', .slice C' s.out.length c2'] 26)
          have hxa := heap_alloc_new wr (.cells #[.slice B' s.nx.length c1', .slice C' s.out.length c2'] 26)
          have hx3 := (hal.block _ (Nat.lt_of_lt_of_le hwl2 HBR.out.size)).trans ((HBR.out.block _ hwl2).trans HX2.out)
          have HR := Lib.hid (right_any (hsd.on hal) h.K h.K)
          have HS := Lib.hid hs
          have HAL := Lib.hid hal
          have hyy := Lib.cell_of_heap hxa 0
          have hyz := Lib.cell_of_heap hxa 1
          have z1 := Lib.cell_of_heap hx3 0
          simp only [List.getElem?_toArray, List.getElem?_cons_zero, List.getElem?_cons_succ] at hyy hyz z1
          clear hs hsd hal hxa hx3
          go_upto_region 6 with fail
          have hsz4 : wr.heap.size < (wr.alloc (.cells #[.slice B' s.nx.length c1', .slice C' s.out.length c2'] 26)).heap.size := by rw [World.size_alloc]; omega
          generalize wr.alloc (.cells #[.slice B' s.nx.length c1', .slice C' s.out.length c2'] 26) = W4 at *
          go_wp2_with fail
          refine HR.out.mono ?_
          rintro e W5 ⟨b, rfl, hb, b5⟩
          have hs2 := HBR.out.size
          have hs4 := HAL.out.size
          have HB5 := Lib.hid ((HBR.out.trans (HAL.out.mono hs2)).trans (b5.mono (by omega)))
          clear b5
          cases b with
          | false =>
            have HN := Lib.hid (show ¬ P from fun h => by have := hb.2 ((HP.out.1 h).2.2 i s HS.out); cases this)
            have HBF := Lib.hid (HBW.out.trans (HB5.out.mono HBW.out.size))
            clear hb
            go_wp2
            go_ret
            exact TellB.no HN.out HBF.out
          | true =>
            have HAA := Lib.hid (show ∀ (j : Nat) (s : Sd), j < i + 1 → h.labs[j]? = some s → RightP s h.K h.K from fun j s' hj hs' => by
              rcases Nat.lt_or_ge j i with h9 | h9
              · exact hall.out j s' h9 hs'
              · obtain rfl : j = i := by omega
                rw [HS.out] at hs'
                injection hs' with hs'
                subst hs'
                exact hb.1 rfl)
            clear hb
            go_wp2
            go_roundw
            case rel => exact ⟨i + 1, by go_num, by omega, HAA.out, HB5.out⟩
            case measure => simp [intOf]; omega
        · obtain rfl : i = h.labs.length := by omega
          have HY := Lib.hid (HP.out.2 ⟨by omega, HRT.out, fun k s hk => hall.out k s (by
            rcases Nat.lt_or_ge k h.labs.length with h9 | h9
            · exact h9
            · rw [List.getElem?_eq_none h9] at hk; cases hk) hk⟩)
          have HBF := Lib.hid (HBW.out.trans (HBR.out.mono HBW.out.size))
          go_wp2
          go_ret
          exact TellB.yes HY.out HBF.out
theorem SdOk.right {s : Sd} {K o : Nat} (h : SdOk s K o) : RightP s K o := by
  refine ⟨h.pos, h.len, fun i hi => ?_⟩
  have hi' : i < s.nx.length := by rw [h.len]; exact hi
  obtain ⟨h1, h2⟩ := h.rows s.nx[i] (List.getElem_mem _)
  obtain ⟨h3, h4⟩ := h.outs s.out[i] (List.getElem_mem _)
  exact ⟨s.out[i], s.nx[i], List.getElem?_eq_getElem hi, h3, h4, List.getElem?_eq_getElem hi', by omega, fun y hy => h2 y hy⟩
theorem HdOk.sound {h : Hd} {m : Nat} (H : HdOk h m) : SoundP h := by
  have hK : ((h.K.toNat : Nat) : Int) = h.K := Int.toNat_of_nonneg (by have := H.K1; omega)
  refine ⟨H.K1, ?_, fun k s hk => ?_⟩
  · have := H.root.right
    rw [hK] at this
    exact this
  · have := (H.labs s (List.mem_of_getElem? hk)).right
    rw [hK] at this
    exact this
end Go.Proofs.Ytbipdnnalhdoaaa
