/- strainertop.TopDeep. -/
import Derived.Test.YtnkelhmjkmeilaaGreatDoorT05
import Derived.Test.YtnkelhmjkmeilaaGreatDoorT06
import Derived.Test.YtnkelhmjkmeilaaGreatDoorT47
import Derived.Test.YtnkelhmjkmeilaaGreatDoorT34
import Derived.Test.YtnkelhmjkmeilaaGreatDoorT38
import Derived.Test.YtnkelhmjkmeilaaGreatDoorT14
section
namespace Go.Proofs.YtnkelhmjkmeilaaGreatDoor
open Go.RowKit
set_option maxHeartbeats 8000000 in
set_option maxRecDepth 100000 in
theorem Top_any {w : World} {nm tx : List UInt8} {many : Int} (hM : M0 w) (hnl : nm.length ≤ maxLen) (_htl : tx.length ≤ maxLen) (h1 : -9223372036854775808 ≤ many) (h2 : many ≤ 9223372036854775807) :
    Calls Tryz.prog 3 #[.string ⟨nm.toArray⟩, .int .i64 many, .string ⟨tx.toArray⟩] w fun e w' => e = .returned (.bool true) ∧ Below w.heap.size w w' := by
  have HNM := Lib.hid (Named3_any (IsStr.mk nm) hnl w)
  go_enter Tryz.func3, Tryz.ntmps3
  go_wp2_with fail
  refine HNM.out.mono ?_
  rintro e W ⟨rfl, rfl⟩
  go_wp2_with fail
  refine (rVoid_any nm _).mono ?_
  rintro e W ⟨rfl, rfl⟩
  go_wp2_with fail
  refine (rRaw_any nm _).mono ?_
  rintro e W ⟨rfl, rfl⟩
  generalize hnb : namedL nm = nb
  generalize hvb : voidL nm = vb
  generalize hrb : rawL nm = rb
  go_upto_region 4 with fail
  go_cut [0, 7, 8, 9, 61] (fun s0 _ _ _ s61 wx => ∃ bad : Bool, s0 = .string ⟨nm.toArray⟩ ∧ s61 = .bool bad ∧ w = wx ∧ (bad = false → NmOk nm))
  case first =>
    go_wp2_with fail
    all_goals
      go_meet
      refine ⟨_, by first | rfl | (rename_i h9; rw [h9]), rfl, rfl, fun hb => ?_⟩
      first
        | (exact absurd hb (by decide))
        | (have hl : (nm == [116, 114]) = false := (Bool.or_eq_false_iff.1 hb).2
           have hl' : nm ≠ [116, 114] := beq_eq_false_iff_ne.1 hl
           have h8 : (nm.length : Int) ≤ 8 := by assumption
           exact ⟨by rw [hnb]; assumption, by rw [hvb]; exact Bool.eq_false_iff.2 (by assumption), by rw [hrb]; exact Bool.eq_false_iff.2 (by assumption), by omega, closes_no (by assumption) (by assumption) (by assumption) (by assumption) (by assumption) (by assumption) hl'⟩)
  case rest =>
    obtain ⟨bad, rfl, rfl, rfl, hok⟩ := hcut
    apply_assumption
    go_cut [0] (fun s0 wx => ∃ nm' : List UInt8, s0 = .string ⟨nm'.toArray⟩ ∧ w = wx ∧ NmOk nm')
    case first =>
      cases bad
      · have HK := Lib.hid (hok rfl)
        clear hok
        go_wp2_with fail
        go_meet
        exact ⟨nm, rfl, rfl, HK.out⟩
      · clear hok
        go_wp2_with fail
        go_meet
        exact ⟨[98], rfl, rfl, b_ok⟩
    case rest =>
      obtain ⟨nm', rfl, rfl, hok'⟩ := hcut
      have HOK := Lib.hid hok'
      clear hok hok'
      apply_assumption
      go_upto_region 6 with fail
      go_cut [63] (fun s63 wx => s63 = .bool (decide (many < 0)) ∧ w = wx)
      case first =>
        go_wp2_with fail
        all_goals
          go_meet
          exact ⟨by first | rfl | simp_all only [decide_true, decide_false], rfl⟩
      case rest =>
        obtain ⟨rfl, rfl⟩ := hcut
        apply_assumption
        go_cut [1] (fun s1 wx => ∃ m : Int, s1 = .int .i64 m ∧ 0 ≤ m ∧ m ≤ 9223372036854775807 ∧ w = wx)
        case first =>
          by_cases hneg : many < 0
          · go_wp2_with fail
            go_meet
            exact ⟨_, rfl, by omega, by omega, rfl⟩
          · go_wp2_with fail
            go_meet
            exact ⟨_, rfl, by omega, by omega, rfl⟩
        case rest =>
          obtain ⟨m, rfl, hm0, hm1, rfl⟩ := hcut
          apply_assumption
          go_upto_region 8 with fail
          go_cut [1] (fun s1 wx => ∃ n : Nat, s1 = .int .i64 (n : Int) ∧ n ≤ 2000 ∧ w = wx)
          case first =>
            go_wp2_with fail
            go_meet
            exact ⟨(m % 2001).toNat, by first | rfl | (congr 1; first | omega | (rw [Int.toNat_of_nonneg (Int.emod_nonneg _ (by decide))]; first | rfl | (rw [Int.tmod_eq_emod_of_nonneg hm0]))), by omega, rfl⟩
          case rest =>
            obtain ⟨n, rfl, hn, rfl⟩ := hcut
            apply_assumption
            go_upto_region 9 with fail
            go_cut [71] (fun s71 wx => s71 = .bool (decide (20 < (tx.length : Int))) ∧ w = wx)
            case first =>
              go_wp2_with fail
              all_goals
                go_meet
                exact ⟨by first | rfl | simp_all only [decide_true, decide_false], rfl⟩
            case rest =>
              obtain ⟨rfl, rfl⟩ := hcut
              apply_assumption
              go_cut [2] (fun s2 wx => ∃ tx' : List UInt8, s2 = .string ⟨tx'.toArray⟩ ∧ tx'.length ≤ 20 ∧ w = wx)
              case first =>
                by_cases h20 : (20 : Int) < (tx.length : Int)
                · go_wp2_with fail
                  go_meet
                  exact ⟨tx.take 20, congrArg Value.string (txt_cut tx), by rw [List.length_take]; omega, rfl⟩
                · go_wp2_with fail
                  go_meet
                  exact ⟨tx, rfl, by omega, rfl⟩
              case rest =>
                obtain ⟨tx', rfl, htl', rfl⟩ := hcut
                have HM := Lib.hid hM
                clear hM
                apply_assumption
                go_wp2_with fail
                have hfew := HOK.out.few
                go_loopw [10, 11] (fun sv iv wx => ∃ (k : Nat) (A : Option Addr) (c : Nat), sv = .slice A (begsL nm' k).length c ∧ iv = .int .i64 k ∧ k ≤ n ∧ K.ByR wx w.heap.size (.slice A (begsL nm' k).length c) (begsL nm' k) ∧ Below w.heap.size w wx)
                  (fun _ iv _ => n - (intOf iv).toNat)
                case atStart => exact ⟨0, none, 0, rfl, rfl, Nat.zero_le _, K.ByR.nil _ _, Below.refl _ _⟩
                case round =>
                  obtain ⟨k, A, c, rfl, rfl, hk, hB, hb⟩ := hrel
                  have hbl : (begsL nm' k).length ≤ 20000 := by
                    have hbl2 : k * (nm'.length + 2) ≤ 2000 * 10 := Nat.mul_le_mul (by omega) (by omega)
                    rw [begsL_len]
                    omega
                  have hbt : (begT nm').length ≤ 10 := by
                    have : (begT nm').length = nm'.length + 2 := by simp [begT]
                    omega
                  have hsz := hb.size
                  by_cases hlt : k < n
                  · have hltI : (k : Int) < (n : Int) := by omega
                    have hc1 : ¬ 9223372036854775807 < 1 + nm'.length := by omega
                    have hc2 : ¬ 9223372036854775807 < 1 + nm'.length + 1 := by omega
                    have HBB := Lib.hid (And.intro hB hb)
                    clear hB hb
                    go_wp2_with (at_builtin; refine K.wpList_byte_app rfl _ _ rfl (base := w.heap.size) rfl HBB.out.1 (begT nm') (by first | rfl | exact congrArg Value.string (beg_cat nm')) (by omega) (by omega) ?_)
                    intro A3 c3 W3 h3 g3 o3 _
                    have hB3 : Below w.heap.size w W3 := HBB.out.2.grown g3 hsz (fun q hq => (HBB.out.1.lt q hq).1)
                    have HE := Lib.hid (And.intro h3 hB3)
                    clear h3 g3 o3 hB3
                    rw [show (begsL nm' k).length + (begT nm').length = (begsL nm' (k + 1)).length by rw [begsL, List.length_append]] at HE
                    rw [show (begsL nm' k).length + (begT nm').length = (begsL nm' (k + 1)).length by rw [begsL, List.length_append]]
                    go_wp2_with fail
                    go_roundw
                    case rel => exact ⟨k + 1, A3, c3, rfl, by go_num, by omega, HE.out.1, HE.out.2⟩
                    case measure => simp [intOf]; omega
                  · obtain rfl : k = n := by omega
                    have hltI : ¬ (k : Int) < (k : Int) := by omega
                    obtain ⟨wo, rfl⟩ : ∃ wo : World, wo = wr := ⟨_, rfl⟩
                    have HB := Lib.hid hB
                    have Hb := Lib.hid hb
                    have hel : (esc false tx').length ≤ 120 := by
                      have := (esc_length false tx').2
                      omega
                    have HN := Lib.hid (one_text wo tx')
                    have HW1 := Lib.hid (show Below w.heap.size w (wo.alloc (.cells #[.int .i64 2, .string ⟨#[]⟩, .slice none 0 0, .string ⟨tx'.toArray⟩, .slice none 0 0] 28)) from hb.alloc hsz _)
                    have HB1 := Lib.hid (show K.ByR (wo.alloc (.cells #[.int .i64 2, .string ⟨#[]⟩, .slice none 0 0, .string ⟨tx'.toArray⟩, .slice none 0 0] 28)) w.heap.size (.slice A (begsL nm' k).length c) (begsL nm' k) from hB.block fun q hq => Below.heap_alloc wo _ q (hB.lt q hq).2)
                    clear hB hb
                    go_wp2_with fail
                    generalize wo.alloc (.cells #[.int .i64 2, .string ⟨#[]⟩, .slice none 0 0, .string ⟨tx'.toArray⟩, .slice none 0 0] 28) = W1 at *
                    refine (RefText_text (c := 1) HN.out (Nat.le_refl 1) (by omega)).mono ?_
                    rintro e W2 ⟨rfl, b2⟩
                    have HB2 := Lib.hid (show K.ByR W2 w.heap.size (.slice A (begsL nm' k).length c) (begsL nm' k) from HB1.out.block fun q hq => b2.block q (HB1.out.lt q hq).2)
                    have HW2 := Lib.hid (bt HW1.out b2)
                    clear b2 HN HB1 HW1
                    go_wp2_with (at_builtin; refine K.wpList_byte_app rfl _ _ rfl (base := w.heap.size) rfl HB2.out (esc false tx') rfl (by omega) HW2.out.size ?_)
                    intro A3 c3 W3 h3 g3 o3 k3
                    have HB3 := Lib.hid (show Below w.heap.size w W3 from HW2.out.grown g3 HW2.out.size (fun q hq => (HB2.out.lt q hq).1))
                    have HR3 := Lib.hid h3.rd
                    have HK3 := Lib.hid k3
                    clear h3 g3 o3 k3
                    go_wp2_with fail
                    refine (Bytes_top HOK.out htl' hn HR3.out (by omega) (HM.out.below HB3.out)).mono ?_
                    rintro e W4 ⟨A4, c4, rfl, h5, h6, b4⟩
                    have HB4 := Lib.hid (bt HB3.out b4)
                    have HN4 := Lib.hid h6
                    have HK4 := Lib.hid (show Below W3.heap.size W3 W4 from b4)
                    clear h6 b4
                    go_wp2_with fail
                    refine (Text_top HOK.out htl' hn HN4.out h5).mono ?_
                    rintro e W5 ⟨out, rfl, ht, b5⟩
                    have HB5 := Lib.hid (bt HB4.out b5)
                    have HD := Lib.hid (show ∀ w', Below W5.heap.size W5 w' → Calls Tryz.prog 10 #[.slice A4 (topNs nm' k tx').length c4] w' fun e w'' => e = .returned (.int .i64 (k : Int)) ∧ Below w'.heap.size w' w'' from fun w' hw' => Deep_top hn ((HN4.out.on b5).on hw') h5)
                    have HC := conv_str HK3.out (bt HK4.out b5)
                    have hge := ht.len
                    have hcutE := ht.cut
                    have hb0 : Below W5.heap.size W5 W5 := Below.refl _ _
                    clear ht b5 HN4 HK4 HK3 HR3 HB2 HW2 HB4 HM HOK hfew hel h5
                    generalize (⟨(begsL nm' k).toArray⟩ : ByteArray) = S at *
                    generalize (begsL nm' k).length = m at *
                    go_upto_region 19 with fail
                    go_region_held3 (fun w' => Below W5.heap.size W5 w')
                      (repeat (first | assumption | with_reducible refine Below.drew ?_ | with_reducible refine bt (a := W5) ?_ br))
                      (first
                        | (go_at_call 10; refine (HD.out _ (by assumption)).mono ?_; rintro e WD ⟨rfl, br⟩)
                        | (go_at_call 11; refine (H.alive_yes).mono ?_; rintro e WA ⟨rfl, br⟩))
                    rename_i hH
                    have HE := Lib.hid (HB5.out.trans (hH.mono HB5.out.size))
                    clear hH
                    go_wp2
                    go_ret
                    exact ⟨rfl, HE.out⟩
set_option maxRecDepth 100000 in
theorem TopDeep_calls {w : World} (s0 : ByteArray) (h0 : s0.size ≤ maxLen) (i : Int) (hi : (Lit.int .i64 i).wf = true) (s2 : ByteArray) (h2 : s2.size ≤ maxLen) (hM : M0 w) :
    Calls Tryz.prog 3 #[.string s0, .int .i64 i, .string s2] w fun e w' => e = .returned (.bool true) ∧ Below w.heap.size w w' := by
  have hw : (decide (IntKind.i64.min ≤ i) && decide (i ≤ IntKind.i64.max)) = true := hi
  rw [Bool.and_eq_true, decide_eq_true_eq, decide_eq_true_eq] at hw
  have H := Top_any (nm := s0.data.toList) (tx := s2.data.toList) hM ((IsStr.of s0).size ▸ h0) ((IsStr.of s2).size ▸ h2) hw.1 hw.2
  rwa [← (IsStr.of s0).to, ← (IsStr.of s2).to] at H
end Go.Proofs.YtnkelhmjkmeilaaGreatDoor
end
