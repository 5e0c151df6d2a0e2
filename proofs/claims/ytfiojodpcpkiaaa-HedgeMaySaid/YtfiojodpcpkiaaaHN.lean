/- The document's side and May on any automaton. -/
import Derived.Test.YtfiojodpcpkiaaaHL
import Derived.Test.YtfiojodpcpkiaaaHt
namespace Go.Proofs.Ytfiojodpcpkiaaa
open Go.RowKit Go.Maps Go.WideMaps
attribute [local go_sem ↓] Go.wp_at_zero Go.wp_at_succ

set_option maxHeartbeats 4000000 in
set_option maxRecDepth 100000 in
theorem rside_any {w : World} {s : Sd} {B C : Option Addr} {c1 c2 K : Nat} (H : SdV w (fun b => b < w.heap.size) s B c1 C c2) (o : Int) :
    Calls Try.prog 26 #[sdVal s B c1 C c2, .int .i64 (K : Int), .int .i64 o] w (TellB (RightP s (K : Int) o ∧ s.out.length ≤ 200) w) := by
  have hB0 := (Below.refl _ w).alloc (Nat.le_refl _) (.cells #[.slice B s.nx.length c1, .slice C s.out.length c2] 26)
  have hx0 := heap_alloc_new w (.cells #[.slice B s.nx.length c1, .slice C s.out.length c2] 26)
  have H1 := H.on hB0
  have HPD : (RightP s (K : Int) o ∧ s.out.length ≤ 200) ↔ ((0 < s.out.length ∧ s.nx.length = s.out.length ∧ ∀ i, i < s.out.length → RowP s (K : Int) o i) ∧ s.out.length ≤ 200) := Iff.rfl
  generalize hP : (RightP s (K : Int) o ∧ s.out.length ≤ 200) = P at *
  clear hP
  obtain ⟨on, hon⟩ : ∃ on, on = s.out.length := ⟨_, rfl⟩
  obtain ⟨nn, hnn⟩ : ∃ nn, nn = s.nx.length := ⟨_, rfl⟩
  have hbn := H.le1.len
  have HBN := Lib.hid hbn
  clear hbn
  go_enter Try.func26, Try.ntmps26
  go_upto_region 1 with fail
  generalize w.alloc (.cells #[.slice B s.nx.length c1, .slice C s.out.length c2] 26) = W1 at *
  have x0 := Lib.cell_of_heap hx0 0
  have x1 := Lib.cell_of_heap hx0 1
  simp only [List.getElem?_toArray, List.getElem?_cons_zero, List.getElem?_cons_succ] at x0 x1
  rw [← hon, ← hnn] at HPD
  rw [← hnn] at x0
  rw [← hon] at x1
  have HP := Lib.hid HPD
  have HB := Lib.hid hB0
  have HV := Lib.hid H1
  have HE := Lib.hid (And.intro hon hnn)
  clear HPD hB0 hx0 H1 H hon hnn
  by_cases hl : on = nn
  · have e1 : ((on : Int) == (nn : Int)) = true := by simp [hl]
    have e2 : ((on : Int) != (nn : Int)) = false := by simp [hl]
    have HL := Lib.hid hl
    clear hl
    by_cases h0 : nn = 0
    · have HN := Lib.hid (show ¬ P from fun h => by have := (HP.out.1 h).1.1; have := HL.out; omega)
      have h1 : (nn : Int) < 1 := by omega
      have h2 : ¬ (200 : Int) < (nn : Int) := by omega
      clear h0
      go_wp2
      go_ret
      exact TellB.no HN.out HB.out
    · have h1 : ¬ (nn : Int) < 1 := by omega
      by_cases h2 : (200 : Int) < (nn : Int)
      · have HN := Lib.hid (show ¬ P from fun h => by have := (HP.out.1 h).2; have := HL.out; have := HE.out.1; omega)
        go_wp2
        go_ret
        exact TellB.no HN.out HB.out
      · have h200 : nn ≤ 200 := by omega
        go_wp2
        go_loop [8] (fun iv => ∃ i : Nat, iv = .int .i64 i ∧ i ≤ nn ∧ Hid (∀ j, j < i → RowP s (K : Int) o j)) (fun iv => nn - (intOf iv).toNat)
        case atStart => exact ⟨0, rfl, Nat.zero_le _, fun j hj => by omega⟩
        case round =>
          obtain ⟨i, rfl, hi, hall⟩ := hrel
          by_cases hlt : i < nn
          · obtain ⟨x, hx⟩ : ∃ x, s.out[i]? = some x := ⟨s.out[i]'(by rw [← HE.out.1, HL.out]; exact hlt), List.getElem?_eq_getElem _⟩
            obtain ⟨r, hr⟩ : ∃ r, s.nx[i]? = some r := ⟨s.nx[i]'(by rw [← HE.out.2]; exact hlt), List.getElem?_eq_getElem _⟩
            obtain ⟨a, rfl, hab, k0⟩ := ints_at' HV.out.out hx
            obtain ⟨a2, R, rc, rfl, hab2, k1, hrc, hrow⟩ := HV.out.row_at hr
            have hrb := hrc.len
            have hnI : (i : Int) < (nn : Int) := by omega
            have hoI : (i : Int) < (on : Int) := by have := HL.out; omega
            have hi0 : (0 : Int) ≤ (i : Int) := by omega
            have HXR := Lib.hid (And.intro hx hr)
            have HROW := Lib.hid hrow
            clear hx hr hrow
            have HNO := Lib.hid (show ¬ (0 ≤ x ∧ x < o ∧ (r.length : Int) = K) → ¬ P from fun hn h => by
              obtain ⟨x', r', e1, e2, e3, e4, e5, _⟩ := (HP.out.1 h).1.2.2 i (by have := HL.out; omega)
              rw [HXR.out.1] at e1
              rw [HXR.out.2] at e4
              injection e1 with e1
              injection e4 with e4
              subst e1 e4
              exact hn ⟨e2, e3, e5⟩)
            by_cases q3 : r.length = K
            · have q3b : ((r.length : Int) == (K : Int)) = true := by simp [q3]
              have q3c : ((r.length : Int) != (K : Int)) = false := by simp [q3]
              have HQ3 := Lib.hid q3
              clear q3
              by_cases q1 : x < 0
              · have HN := Lib.hid (HNO.out (fun h => by omega))
                go_wp2
                go_ret
                exact TellB.no HN.out HB.out
              · by_cases q2 : o ≤ x
                · have HN := Lib.hid (HNO.out (fun h => by omega))
                  go_wp2
                  go_ret
                  exact TellB.no HN.out HB.out
                · go_wp2
                  go_loop [9] (fun jv => ∃ j : Nat, jv = .int .i64 j ∧ j ≤ K ∧ Hid (∀ k y, k < j → r[k]? = some y → 0 ≤ y ∧ y < (nn : Int))) (fun jv => K - (intOf jv).toNat)
                  case atStart => exact ⟨0, rfl, Nat.zero_le _, fun k y hk => by omega⟩
                  case round =>
                    obtain ⟨j, rfl, hj, hin⟩ := hrel
                    by_cases hjl : j < K
                    · obtain ⟨y, hy⟩ : ∃ y, r[j]? = some y := ⟨r[j]'(by rw [HQ3.out]; exact hjl), List.getElem?_eq_getElem _⟩
                      obtain ⟨a3, rfl, hab3, k2⟩ := ints_at' HROW.out hy
                      have hjI : (j : Int) < (r.length : Int) := by have := HQ3.out; omega
                      have hjK : (j : Int) < (K : Int) := by omega
                      have hjr : j < r.length := by have := HQ3.out; omega
                      have hj0 : (0 : Int) ≤ (j : Int) := by omega
                      have HY := Lib.hid hy
                      clear hy
                      have HNY := Lib.hid (show ¬ (0 ≤ y ∧ y < (nn : Int)) → ¬ P from fun hn h => by
                        obtain ⟨x', r', e1, e2, e3, e4, e5, e6⟩ := (HP.out.1 h).1.2.2 i (by have := HL.out; omega)
                        rw [HXR.out.2] at e4
                        injection e4 with e4
                        subst e4
                        have := e6 y (List.mem_of_getElem? HY.out)
                        rw [← HE.out.1, HL.out] at this
                        exact hn this)
                      by_cases w1 : y < 0
                      · have HN := Lib.hid (HNY.out (fun h => by omega))
                        go_wp2
                        go_ret
                        exact TellB.no HN.out HB.out
                      · by_cases w2 : (nn : Int) ≤ y
                        · have HN := Lib.hid (HNY.out (fun h => by omega))
                          go_wp2
                          go_ret
                          exact TellB.no HN.out HB.out
                        · have HS := Lib.hid (show ∀ k z, k < j + 1 → r[k]? = some z → 0 ≤ z ∧ z < (nn : Int) from fun k z hk hz => by
                            rcases Nat.lt_or_ge k j with h9 | h9
                            · exact hin.out k z h9 hz
                            · obtain rfl : k = j := by omega
                              rw [HY.out] at hz
                              injection hz with hz
                              omega)
                          go_wp2
                          go_round
                          case rel => exact ⟨j + 1, by go_num, by omega, HS.out⟩
                          case measure => simp [intOf]; omega
                    · have hjK : ¬ (j : Int) < (K : Int) := by omega
                      have HS := Lib.hid (show ∀ j, j < i + 1 → RowP s (K : Int) o j from fun j' hj' => by
                        rcases Nat.lt_or_ge j' i with h9 | h9
                        · exact hall.out j' h9
                        · obtain rfl : j' = i := by omega
                          refine ⟨x, r, HXR.out.1, by omega, by omega, HXR.out.2, by rw [HQ3.out], fun y hy => ?_⟩
                          obtain ⟨k, hk, rfl⟩ := List.mem_iff_getElem.1 hy
                          have := hin.out k _ (by have := HQ3.out; omega) (List.getElem?_eq_getElem hk)
                          rw [← HL.out, HE.out.1] at this
                          exact this)
                      go_wp2
                      go_round
                      case rel => exact ⟨i + 1, by go_num, by omega, HS.out⟩
                      case measure => simp [intOf]; omega
            · have q3b : ((r.length : Int) == (K : Int)) = false := by simp; omega
              have q3c : ((r.length : Int) != (K : Int)) = true := by simp; omega
              have HN := Lib.hid (HNO.out (fun h => q3 (by have := h.2.2; omega)))
              clear q3
              go_wp2
              go_ret
              exact TellB.no HN.out HB.out
          · obtain rfl : i = nn := by omega
            have hlt' : ¬ (i : Int) < (i : Int) := by omega
            have HY := Lib.hid (HP.out.2 ⟨⟨by have := HL.out; omega, HL.out.symm, fun j hj => hall.out j (by rw [← HL.out]; exact hj)⟩, by have := HL.out; omega⟩)
            go_wp2
            go_ret
            exact TellB.yes HY.out HB.out
  · have e1 : ((on : Int) == (nn : Int)) = false := by simp; omega
    have e2 : ((on : Int) != (nn : Int)) = true := by simp; omega
    have HN := Lib.hid (show ¬ P from fun h => hl (HP.out.1 h).1.2.1.symm)
    clear hl
    by_cases h1 : (nn : Int) < 1
    · have h2 : ¬ (200 : Int) < (nn : Int) := by omega
      go_wp2
      go_ret
      exact TellB.no HN.out HB.out
    · by_cases h2 : (200 : Int) < (nn : Int)
      · go_wp2
        go_ret
        exact TellB.no HN.out HB.out
      · go_wp2
        go_ret
        exact TellB.no HN.out HB.out
set_option maxHeartbeats 2000000 in
set_option maxRecDepth 100000 in
theorem rmay_any {w : World} {h : Hd} {A B C : Option Addr} {c c1 c2 : Nat} (H : HdV w (fun b => b < w.heap.size) h A c B c1 C c2) :
    Calls Try.prog 9 #[hdVal h A c B c1 C c2] w (TellB (MayP h) w) := by
  have hB0 := (Below.refl _ w).alloc (Nat.le_refl _) (.cells #[.int .i64 h.K, .slice A h.labs.length c, .slice B h.root.nx.length c1, .slice C h.root.out.length c2] 28)
  have hx0 := heap_alloc_new w (.cells #[.int .i64 h.K, .slice A h.labs.length c, .slice B h.root.nx.length c1, .slice C h.root.out.length c2] 28)
  have hlb := H.le.len
  have HPD : MayP h ↔ (h.K ≤ 200 ∧ SoundP h ∧ (∀ (k : Nat) (s : Sd), h.labs[k]? = some s → s.out.length ≤ 200) ∧ h.root.out.length ≤ 200) := Iff.rfl
  generalize hP : MayP h = P at *
  clear hP
  go_enter Try.func9, Try.ntmps9
  go_upto_region 1 with fail
  generalize w.alloc (.cells #[.int .i64 h.K, .slice A h.labs.length c, .slice B h.root.nx.length c1, .slice C h.root.out.length c2] 28) = W1 at *
  have x0 := Lib.cell_of_heap hx0 0
  have x1 := Lib.cell_of_heap hx0 1
  have x2 := Lib.cell_of_heap hx0 2
  have x3 := Lib.cell_of_heap hx0 3
  simp only [List.getElem?_toArray, List.getElem?_cons_zero, List.getElem?_cons_succ] at x0 x1 x2 x3
  have hwl := (Array.getElem?_eq_some_iff.1 hx0).1
  have HP := Lib.hid HPD
  have HV := Lib.hid (H.on hB0)
  have HB := Lib.hid hB0
  have HX := Lib.hid hx0
  clear HPD H hB0 hx0
  by_cases hk1 : h.K < 1
  · have HN := Lib.hid (show ¬ P from fun hp => by have := (HP.out.1 hp).2.1.1; omega)
    have hk2 : ¬ (200 : Int) < h.K := by omega
    go_wp2
    go_ret
    exact TellB.no HN.out HB.out
  · by_cases hk2 : (200 : Int) < h.K
    · have HN := Lib.hid (show ¬ P from fun hp => by have := (HP.out.1 hp).1; omega)
      go_wp2
      go_ret
      exact TellB.no HN.out HB.out
    · obtain ⟨K, hK⟩ : ∃ K : Nat, h.K = (K : Int) := ⟨h.K.toNat, (Int.toNat_of_nonneg (by omega)).symm⟩
      have HKE := Lib.hid hK
      have HX' := Lib.hid (show W1.heap[w.heap.size]? = some (.cells #[.int .i64 (K : Int), .slice A h.labs.length c, .slice B h.root.nx.length c1, .slice C h.root.out.length c2] 28 (0, 0)) by rw [← hK]; exact HX.out)
      rw [hK] at hk1 hk2 x0
      clear hK
      go_wp2
      go_loopw [3] (fun iv wr => ∃ i : Nat, iv = .int .i64 i ∧ i ≤ h.labs.length ∧ Hid (∀ (j : Nat) (s : Sd), j < i → h.labs[j]? = some s → RightP s (K : Int) (K : Int) ∧ s.out.length ≤ 200) ∧ Below W1.heap.size W1 wr) (fun iv _ => h.labs.length - (intOf iv).toNat)
      case atStart => exact ⟨0, rfl, Nat.zero_le _, (fun j s hj => by omega), Below.refl _ _⟩
      case round =>
        obtain ⟨i, rfl, hi, hall, hbr⟩ := hrel
        obtain ⟨wo, rfl⟩ : ∃ wo : World, wo = wr := ⟨_, rfl⟩
        have hx4 := (hbr.block _ hwl).trans HX'.out
        have hwlo := (Array.getElem?_eq_some_iff.1 hx4).1
        have z0 := Lib.cell_of_heap hx4 0
        have z1 := Lib.cell_of_heap hx4 1
        have z2 := Lib.cell_of_heap hx4 2
        have z3 := Lib.cell_of_heap hx4 3
        simp only [List.getElem?_toArray, List.getElem?_cons_zero, List.getElem?_cons_succ] at z0 z1 z2 z3
        have HVo := Lib.hid (HV.out.on hbr)
        have HBR := Lib.hid hbr
        clear hx4 hbr x0 x1 x2 x3
        by_cases hlt : i < h.labs.length
        · obtain ⟨a, B', c1', C', c2', rfl, hab, k0, k1, hsd⟩ := labs_at HVo.out.labs (Hd.side_lt hlt)
          have HSI := Lib.hid (Hd.side_lt hlt)
          have HSD := Lib.hid hsd
          generalize h.side i = sd at *
          have hab2 : (a.add (i * 2)).block < wo.heap.size := by rw [block_add]; exact hab
          have r0 := fun w' (hw' : Below wo.heap.size wo w') => (hw'.cell (p := ⟨w.heap.size, 0, none⟩) hwlo).trans z0
          have r1 := fun w' (hw' : Below wo.heap.size wo w') => (hw'.cell (p := ⟨w.heap.size, 1, none⟩) hwlo).trans z1
          have r4 := fun w' (hw' : Below wo.heap.size wo w') => (hw'.cell (p := a.add (i * 2)) hab2).trans k0
          have r5 := fun w' (hw' : Below wo.heap.size wo w') => (hw'.cell (p := ⟨(a.add (i * 2)).block, (a.add (i * 2)).off + 1, none⟩) hab2).trans k1
          have hiI : (i : Int) < (h.labs.length : Int) := by omega
          have hi0 : (0 : Int) ≤ (i : Int) := by omega
          have HC : Hid (∀ w', Below wo.heap.size wo w' → Calls Try.prog 26 #[sdVal sd B' c1' C' c2', .int .i64 (K : Int), .int .i64 (K : Int)] w' (TellB (RightP sd (K : Int) (K : Int) ∧ sd.out.length ≤ 200) w')) :=
            Lib.hid fun w' hw' => rside_any (HSD.out.on hw') (K : Int)
          have hb0 : Below wo.heap.size wo wo := Below.refl _ _
          clear hsd k0 k1 hab z0 z1 z2 z3
          go_upto_region 6 with fail
          go_region_held3 (fun w' => Below wo.heap.size wo w')
            (repeat (first | assumption | with_reducible refine Below.drew ?_ | with_reducible refine bt (a := wo) ?_ br))
            (first | (go_at_call 26; refine (HC.out _ (by assumption)).mono ?_; rintro e WA ⟨b, rfl, hb, br⟩))
          all_goals
            rename_i hH
            have HBX := Lib.hid (HBR.out.trans (hH.mono HBR.out.size))
            have HBY := Lib.hid (HB.out.trans (HBX.out.mono HB.out.size))
            clear hH r0 r1 r4 r5 HC
            cases b with
            | false =>
              have HN := Lib.hid (show ¬ P from fun hp => by
                have h8 := HP.out.1 hp
                have h9 := h8.2.1.2.2 i sd HSI.out
                rw [HKE.out] at h9
                have := hb.2 ⟨h9, h8.2.2.1 i sd HSI.out⟩
                cases this)
              clear hb
              go_wp2
              go_ret
              exact TellB.no HN.out HBY.out
            | true =>
              have HY := Lib.hid (hb.1 rfl)
              clear hb
              have HALL := Lib.hid (show ∀ (j : Nat) (s : Sd), j < i + 1 → h.labs[j]? = some s → RightP s (K : Int) (K : Int) ∧ s.out.length ≤ 200 from fun j s hj hs => by
                rcases Nat.lt_or_ge j i with h9 | h9
                · exact hall.out j s h9 hs
                · obtain rfl : j = i := by omega
                  rw [HSI.out] at hs
                  injection hs with hs
                  subst hs
                  exact HY.out)
              go_wp2
              go_roundw
              case rel => exact ⟨i + 1, by go_num, by omega, HALL.out, HBX.out⟩
              case measure => simp [intOf]; omega
        · obtain rfl : i = h.labs.length := by omega
          have hiI : ¬ (h.labs.length : Int) < (h.labs.length : Int) := by omega
          have HC := Lib.hid (rside_any (K := K) HVo.out.root 2)
          have HBX := Lib.hid (HB.out.trans (HBR.out.mono HB.out.size))
          go_wp2_with fail
          refine HC.out.mono ?_
          rintro e W5 ⟨b, rfl, hb, b5⟩
          have HB5 := Lib.hid (HBX.out.trans (b5.mono HBX.out.size))
          have HBI := Lib.hid (show b = true ↔ P from hb.trans ⟨fun hq => HP.out.2 ⟨by rw [HKE.out]; omega, ⟨by rw [HKE.out]; omega, by rw [HKE.out]; exact hq.1, fun k s hs => by rw [HKE.out]; exact (hall.out k s (List.getElem?_eq_some_iff.1 hs).1 hs).1⟩, fun k s hs => (hall.out k s (List.getElem?_eq_some_iff.1 hs).1 hs).2, hq.2⟩, fun hp => by
            have h8 := HP.out.1 hp
            have h9 := h8.2.1.2.1
            rw [HKE.out] at h9
            exact ⟨h9, h8.2.2.2⟩⟩)
          clear hb b5
          go_wp2
          go_ret
          exact ⟨b, rfl, HBI.out, HB5.out⟩
end Go.Proofs.Ytfiojodpcpkiaaa
