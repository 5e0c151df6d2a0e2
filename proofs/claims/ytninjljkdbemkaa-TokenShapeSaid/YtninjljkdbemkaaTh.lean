/- The law TokenShape. -/
import Derived.Test.YtninjljkdbemkaaTrb
import Derived.Deep.RegionHeld3
namespace Go.Proofs.Ytninjljkdbemkaa
open Go.RowKit

set_option maxHeartbeats 1000000 in
set_option maxRecDepth 100000 in
/-- strainerlaw05.TokenShape -/
theorem TokenShape_calls {w : World} {n c : Nat} {A : Option Addr} {l0 : List UInt8} (hr : Rd w w.heap.size 1 A n (Lib.byteCells l0)) (hnc : n ≤ c) (hc : c ≤ maxLen) (hM : M0 w) :
    Calls Try.prog 5 #[.slice A n c] w fun e w' => e = .returned (.bool true) ∧ Below w.heap.size w w' := by
  have HM := Lib.hid hM
  clear hM
  have hx := right_length (l0.take 300)
  have hl3 := len_take l0 300
  have hri := right_is (l0.take 300)
  go_enter Try.func5, Try.ntmps5
  go_wp2_with fail
  refine (few05 hr hnc hc).mono ?_
  rintro e W1 ⟨rfl, b1⟩
  generalize right (l0.take 300) = s at *
  have hs1 : s.length ≤ 1200 := by omega
  have hM1 := HM.out.below b1
  clear hx hl3 hr
  go_wp2_with fail
  refine (Tokens_any (l := s) (IsStr.mk s) (by omega) hM1).mono ?_
  rintro e W2 ⟨A1, c1, rfl, hc1, hP, b2⟩
  have hP1 : Toks W2 W2.heap.size A1 _ _ := ToksP.lt hP (fun b hb => hb.2)
  have B2 := bt b1 b2
  have HSH := Lib.hid (toksL_shape hri)
  obtain ⟨hbd, hcnt⟩ := toksL_bd s
  have HBD := Lib.hid hbd
  clear hP b1 b2 hM1 hri hbd
  generalize toksL s = l at *
  go_wp2
  go_loopw [4] (fun iv wr => ∃ k : Nat, iv = .int .i64 k ∧ k ≤ l.length ∧ Below W2.heap.size W2 wr) (fun iv _ => l.length - (intOf iv).toNat)
  case atStart => exact ⟨0, rfl, Nat.zero_le _, Below.refl _ _⟩
  case round =>
    obtain ⟨k, rfl, hk, hw⟩ := hrel
    by_cases hlt : k < l.length
    · have hsh := HSH.out l[k] (List.getElem_mem hlt)
      obtain ⟨hbn, hba, hbx⟩ := HBD.out l[k] (List.getElem_mem hlt)
      obtain ⟨a, A2, c2, rfl, hab, k0, n0, ats0, t0, hc0, hat0⟩ := (hP1.on hw).at_ hlt hlt
      generalize l[k] = tk at *
      obtain ⟨kd, nm, ats, tx⟩ := tk
      simp only [] at hbn hba hbx k0 n0 ats0 t0 hc0 hat0
      have HP1 := Lib.hid hP1
      clear hP1
      obtain ⟨wo, rfl⟩ : ∃ wo : World, wo = wr := ⟨_, rfl⟩
      have hws := hw.size
      rcases hsh with ⟨hkd, hnm, htx, hats⟩ | ⟨hkd, hnm, htx, hats⟩ | ⟨hkd, hnm, hats, htx⟩ | ⟨hkd, hnm, hats⟩
      · simp only [] at hkd hnm htx hats
        subst hkd; subst htx
        have HNM := Lib.hid hnm
        clear hnm
        have ba := (Below.refl wo.heap.size wo).alloc (Nat.le_refl _) (.cells #[.int .i64 1, .string ⟨nm.toArray⟩, .slice A2 ats.length c2, .string ⟨#[]⟩] 31)
        have ht := heap_alloc_new wo (.cells #[.int .i64 1, .string ⟨nm.toArray⟩, .slice A2 ats.length c2, .string ⟨#[]⟩] 31)
        try simp only [List.length_nil] at ats0
        go_wp2_with fail
        refine (Named3_any (IsStr.mk nm) (by unfold maxLen; first | omega | simp) _).mono ?_
        rintro e W3 ⟨rfl, hW3⟩
        rw [← hW3, HNM.out]
        clear hW3 W3 k0 n0 ats0 t0
        have HAT := Lib.hid hats
        clear hats
        go_wp2
        go_loopw [8, 9, 10, 11] (fun jv _ _ _ wy => ∃ j : Nat, jv = .int .i64 j ∧ j ≤ ats.length ∧ Below wo.heap.size wo wy ∧ wy.heap[wo.heap.size]? = some (.cells #[.int .i64 1, .string ⟨nm.toArray⟩, .slice A2 ats.length c2, .string ⟨#[]⟩] 31 (0, 0))) (fun jv _ _ _ _ => ats.length - (intOf jv).toNat)
        case atStart => exact ⟨0, rfl, Nat.zero_le _, ba, ht⟩
        case round =>
          obtain ⟨j, rfl, hj, hwy, hty⟩ := hrel
          have g2 := Lib.cell_of_heap hty 2
          simp only [List.getElem?_toArray, List.getElem?_cons_zero, List.getElem?_cons_succ] at g2
          by_cases hjl : j < ats.length
          · obtain ⟨ad, rfl, had, p0, p1⟩ := hat0.cells hjl hjl
            have hm := List.getElem_mem hjl
            have hA1 := HAT.out.1 _ hm
            have hA2 := HAT.out.2 _ hm
            have hnb := hbx _ hm
            have p0' := (hwy.cell (p := ad.add (j * 2)) had).trans p0
            have p1' := (hwy.cell (p := ⟨(ad.add (j * 2)).block, (ad.add (j * 2)).off + 1, none⟩) had).trans p1
            have hNI : NIs wr wr.heap.size (.mk 0 [] ats [] []) [.int .i64 0, .string ⟨#[]⟩, .slice (some ad) ats.length c2, .string ⟨#[]⟩, .slice none 0 0] :=
              NIs.mk' hc0 ((Rd.below (B := wo.heap.size) hat0 hwy).more hwy.size) (Nat.le_refl 0) (Nodes.nil _ _ none)
            have HVAL := Lib.hid (show ((valL ats ats[j].1).getD []) = ats[j].2 by rw [hA2]; rfl)
            clear hA2 hm p0 p1
            generalize ats[j] = at_ at *
            have hlty : wo.heap.size < wr.heap.size := (Array.getElem?_eq_some_iff.1 hty).1
            have hady : (ad.add (j * 2)).block < wr.heap.size := Nat.lt_of_lt_of_le had hwy.size
            go_wp2_with fail
            refine (Attributed3_any (IsStr.mk at_.1) (by omega)).mono ?_
            rintro e W4 ⟨rfl, b4⟩
            rw [hA1]
            have HN4 := Lib.hid ((NIs.keep (fun p hp => b4.cell hp) hNI).more b4.size)
            have hL0 : ∀ w', Below W4.heap.size W4 w' → w'.cell? ⟨wo.heap.size, 2, none⟩ = some (.slice (some ad) ats.length c2) := fun w' hb => (hb.cell (p := ⟨wo.heap.size, 2, none⟩) (Nat.lt_of_lt_of_le hlty b4.size)).trans ((b4.cell (p := ⟨wo.heap.size, 2, none⟩) hlty).trans g2)
            have hL1 : ∀ w', Below W4.heap.size W4 w' → w'.cell? (ad.add (j * 2)) = some (.string ⟨at_.1.toArray⟩) := fun w' hb => (hb.cell (p := ad.add (j * 2)) (Nat.lt_of_lt_of_le hady b4.size)).trans ((b4.cell (p := ad.add (j * 2)) hady).trans p0')
            have hL2 : ∀ w', Below W4.heap.size W4 w' → w'.cell? ⟨(ad.add (j * 2)).block, (ad.add (j * 2)).off + 1, none⟩ = some (.string ⟨at_.2.toArray⟩) := fun w' hb => (hb.cell (p := ⟨(ad.add (j * 2)).block, (ad.add (j * 2)).off + 1, none⟩) (Nat.lt_of_lt_of_le hady b4.size)).trans ((b4.cell (p := ⟨(ad.add (j * 2)).block, (ad.add (j * 2)).off + 1, none⟩) hady).trans p1')
            have hty4 := (b4.block _ hlty).trans hty
            have hwy4 := hwy.trans (b4.mono hwy.size)
            have hVal : ∀ w', Below W4.heap.size W4 w' → Calls Try.prog 17 #[.agg #[.int .i64 0, .string ⟨#[]⟩, .slice (some ad) ats.length c2, .string ⟨#[]⟩, .slice none 0 0], .string ⟨at_.1.toArray⟩] w' fun e w2 => e = .returned (.tuple #[.string ⟨at_.2.toArray⟩, .bool (valL ats at_.1).isSome]) ∧ Below w'.heap.size w' w2 := by
              intro w' hb
              have h := Value3_any (nm := at_.1) ((NIs.keep (fun p hp => hb.cell hp) HN4.out).more hb.size) (by show ats.length ≤ 1000000; omega)
              rw [show (Nd.mk 0 [] ats [] []).attrs = ats from rfl, HVAL.out] at h
              exact h
            have HVC := Lib.hid hVal
            clear hVal hNI g2 p0' p1' hty hwy hA1
            go_upto_region 14 with fail
            go_cut [10, 11] (fun s10 _ wx => s10 = .string ⟨at_.2.toArray⟩ ∧ Below W4.heap.size W4 wx)
            case first =>
              go_region_held3 (fun w' => Below W4.heap.size W4 w')
                  (repeat (first
                    | assumption
                    | with_reducible exact Below.refl _ _
                    | with_reducible refine Below.drew ?_
                    | with_reducible refine bt (a := W4) ?_ br))
                  ((go_at_call 17; refine (HVC.out _ (by assumption)).mono ?_; rintro e WA ⟨rfl, br⟩))
              all_goals
                go_wp2_with fail
                go_meet
                exact ⟨rfl, by assumption⟩
            case rest =>
              obtain ⟨rfl, b5⟩ := hcut
              have hty5 := (b5.block _ (Array.getElem?_eq_some_iff.1 hty4).1).trans hty4
              have hwy5 := hwy4.trans (b5.mono hwy4.size)
              have e0 := hL0 _ b5
              have e2 := hL2 _ b5
              clear hL0 hL1 hL2
              go_wp2
              go_roundw
              case rel => exact ⟨j + 1, by go_num, by omega, hwy5, hty5⟩
              case measure => simp [intOf]; omega
          · go_wp2
            go_roundw
            case rel => exact ⟨k + 1, by go_num, by omega, hw.trans (hwy.mono hws)⟩
            case measure => simp [intOf]; omega
      · simp only [] at hkd hnm htx hats
        subst hkd; subst htx; subst hats
        have HNM := Lib.hid hnm
        clear hnm
        have ba := (Below.refl wo.heap.size wo).alloc (Nat.le_refl _) (.cells #[.int .i64 2, .string ⟨nm.toArray⟩, .slice A2 0 c2, .string ⟨#[]⟩] 31)
        have ht := heap_alloc_new wo (.cells #[.int .i64 2, .string ⟨nm.toArray⟩, .slice A2 0 c2, .string ⟨#[]⟩] 31)
        try simp only [List.length_nil] at ats0
        go_wp2_with fail
        refine (Named3_any (IsStr.mk nm) (by unfold maxLen; first | omega | simp) _).mono ?_
        rintro e W3 ⟨rfl, hW3⟩
        rw [← hW3, HNM.out]
        clear hW3 W3 k0 n0 ats0 t0
        go_wp2
        go_loopw [8, 9, 10, 11] (fun jv _ _ _ wy => jv = .int .i64 0 ∧ Below wo.heap.size wo wy ∧ wy.heap[wo.heap.size]? = some (.cells #[.int .i64 2, .string ⟨nm.toArray⟩, .slice A2 0 c2, .string ⟨#[]⟩] 31 (0, 0))) (fun _ _ _ _ _ => 0)
        case atStart => exact ⟨rfl, ba, ht⟩
        case round =>
          obtain ⟨rfl, hwy, hty⟩ := hrel
          have g2 := Lib.cell_of_heap hty 2
          simp only [List.getElem?_toArray, List.getElem?_cons_zero, List.getElem?_cons_succ] at g2
          go_wp2
          go_roundw
          case rel => exact ⟨k + 1, by go_num, by omega, hw.trans (hwy.mono hws)⟩
          case measure => simp [intOf]; omega
      · simp only [] at hkd hnm hats htx
        subst hkd; subst hnm; subst hats
        have HNM := Lib.hid (show namedL [] = false from rfl)
        have hte : tx.isEmpty = false := by
          cases tx with
          | nil => exact absurd rfl htx
          | cons => rfl
        clear htx
        skip
        have ba := (Below.refl wo.heap.size wo).alloc (Nat.le_refl _) (.cells #[.int .i64 3, .string ⟨#[]⟩, .slice A2 0 c2, .string ⟨tx.toArray⟩] 31)
        have ht := heap_alloc_new wo (.cells #[.int .i64 3, .string ⟨#[]⟩, .slice A2 0 c2, .string ⟨tx.toArray⟩] 31)
        try simp only [List.length_nil] at ats0
        go_wp2_with fail
        refine (Named3_any (IsStr.mk []) (by unfold maxLen; first | omega | simp) _).mono ?_
        rintro e W3 ⟨rfl, hW3⟩
        rw [← hW3, HNM.out]
        clear hW3 W3 k0 n0 ats0 t0
        go_wp2
        go_loopw [8, 9, 10, 11] (fun jv _ _ _ wy => jv = .int .i64 0 ∧ Below wo.heap.size wo wy ∧ wy.heap[wo.heap.size]? = some (.cells #[.int .i64 3, .string ⟨#[]⟩, .slice A2 0 c2, .string ⟨tx.toArray⟩] 31 (0, 0))) (fun _ _ _ _ _ => 0)
        case atStart => exact ⟨rfl, ba, ht⟩
        case round =>
          obtain ⟨rfl, hwy, hty⟩ := hrel
          have g2 := Lib.cell_of_heap hty 2
          simp only [List.getElem?_toArray, List.getElem?_cons_zero, List.getElem?_cons_succ] at g2
          go_wp2
          go_roundw
          case rel => exact ⟨k + 1, by go_num, by omega, hw.trans (hwy.mono hws)⟩
          case measure => simp [intOf]; omega
      · simp only [] at hkd hnm hats
        subst hkd; subst hnm; subst hats
        have HNM := Lib.hid (show namedL [] = false from rfl)
        skip
        have ba := (Below.refl wo.heap.size wo).alloc (Nat.le_refl _) (.cells #[.int .i64 4, .string ⟨#[]⟩, .slice A2 0 c2, .string ⟨tx.toArray⟩] 31)
        have ht := heap_alloc_new wo (.cells #[.int .i64 4, .string ⟨#[]⟩, .slice A2 0 c2, .string ⟨tx.toArray⟩] 31)
        try simp only [List.length_nil] at ats0
        go_wp2_with fail
        refine (Named3_any (IsStr.mk []) (by unfold maxLen; first | omega | simp) _).mono ?_
        rintro e W3 ⟨rfl, hW3⟩
        rw [← hW3, HNM.out]
        clear hW3 W3 k0 n0 ats0 t0
        go_wp2
        go_loopw [8, 9, 10, 11] (fun jv _ _ _ wy => jv = .int .i64 0 ∧ Below wo.heap.size wo wy ∧ wy.heap[wo.heap.size]? = some (.cells #[.int .i64 4, .string ⟨#[]⟩, .slice A2 0 c2, .string ⟨tx.toArray⟩] 31 (0, 0))) (fun _ _ _ _ _ => 0)
        case atStart => exact ⟨rfl, ba, ht⟩
        case round =>
          obtain ⟨rfl, hwy, hty⟩ := hrel
          have g2 := Lib.cell_of_heap hty 2
          simp only [List.getElem?_toArray, List.getElem?_cons_zero, List.getElem?_cons_succ] at g2
          go_wp2
          go_roundw
          case rel => exact ⟨k + 1, by go_num, by omega, hw.trans (hwy.mono hws)⟩
          case measure => simp [intOf]; omega
    · have B3 := bt B2 hw
      have hM3 := HM.out.below B3
      go_wp2_with fail
      refine (lives05 hM3).mono ?_
      rintro e W5 ⟨rfl, b5⟩
      go_wp2
      go_ret
      exact ⟨rfl, bt B3 b5⟩
end Go.Proofs.Ytninjljkdbemkaa
