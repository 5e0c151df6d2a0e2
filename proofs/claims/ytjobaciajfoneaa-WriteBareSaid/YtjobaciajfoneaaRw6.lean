/- The walks of the package refs: Escape. -/
import Derived.Test.YtjobaciajfoneaaBld
import Derived.Test.YtjobaciajfoneaaRefs
import Derived.Test.YtjobaciajfoneaaStr
namespace Go.Proofs.Ytjobaciajfoneaa
open Go.RowKit

theorem u8_beq {a b : UInt8} (h : a ≠ b) : ((a.toNat : Int) == (b.toNat : Int)) = false := by
  rw [beq_eq_false_iff_ne]
  intro e
  exact h (UInt8.toNat_inj.1 (by omega))
theorem esc_next (v : Bool) {l : List UInt8} {k : Nat} (hk : k < l.length) : esc v (l.take (k + 1)) = esc v (l.take k) ++ escB v l[k] := by
  rw [List.take_succ_eq_append_getElem hk, esc_append]
  simp [esc]
theorem escB_one (v : Bool) {c : UInt8} (h1 : c ≠ 38) (h2 : c ≠ 60) (h3 : c ≠ 62) (h4 : ¬ (c = 34 ∧ v = true)) : escB v c = [c] := by
  unfold escB
  rw [if_neg h1, if_neg h2, if_neg h3, if_neg h4]

set_option maxHeartbeats 1000000 in
set_option maxRecDepth 100000 in
/-- refs.Escape -/
theorem Escape_any {w : World} {s : ByteArray} {l : List UInt8} (hs : IsStr s l) (hl : l.length ≤ 1000000) (v : Bool) :
    Calls Try.prog 34 #[.string s, .bool v] w fun e w' => ∃ t, e = .returned (.string t) ∧ IsStr t (esc v l) ∧ Below w.heap.size w w' := by
  have hsz := hs.size
  have hsb : s.size ≤ 1000000 := by omega
  have HS := Lib.hid hs
  have HSZ := Lib.hid hsz
  clear hs hsz
  go_enter Try.func34, Try.ntmps34
  go_wp2
  go_loopw [10] (fun i wr => ∃ (k : Nat) (acc : List UInt8), i = .int .i64 k ∧ k ≤ s.size ∧ Bld w.heap.size w.heap.size acc wr ∧ Below w.heap.size w wr ∧ acc = esc v (l.take k)) (fun i _ => s.size - (intOf i).toNat)
  case atStart => exact ⟨0, [], rfl, Nat.zero_le _, Bld.fresh w, (Below.refl _ w).alloc (Nat.le_refl _) _, rfl⟩
  case round =>
    obtain ⟨k, acc, rfl, hk, hB, hbw, hacc⟩ := hrel
    have hww := hbw.size
    have hsz := HSZ.out
    have hal : acc.length ≤ 6000000 := by
      rw [hacc]
      have := (esc_length v (l.take k)).2
      rw [List.length_take] at this
      omega
    by_cases hlt : k < s.size
    · have hkl : k < l.length := by omega
      have e1 := s_byte HS.out k hlt hkl
      have hnext := esc_next v hkl
      rw [← hacc, ← e1] at hnext
      have HN := Lib.hid hnext
      clear hnext hacc e1 hsz
      generalize hc : s[k] = c at *
      have HC := Lib.hid hc
      by_cases h1 : c = 38
      · subst h1
        go_wp2_with fail
        refine (WriteString_any (s := ⟨#[38, 97, 109, 112, 59]⟩) (m := [38, 97, 109, 112, 59]) rfl hB (by simp; omega) hww).mono ?_
        rintro e W4 ⟨rfl, h4, b4, k4⟩
        go_wp2
        go_roundw
        case rel => exact ⟨k + 1, _, by go_num, by omega, h4, hbw.trans b4, HN.out.symm⟩
        case measure => simp [intOf]; omega
      · have q1 : ((c.toNat : Int) == 38) = false := u8_beq h1
        by_cases h2 : c = 60
        · subst h2
          go_wp2_with fail
          refine (WriteString_any (s := ⟨#[38, 108, 116, 59]⟩) (m := [38, 108, 116, 59]) rfl hB (by simp; omega) hww).mono ?_
          rintro e W4 ⟨rfl, h4, b4, k4⟩
          go_wp2
          go_roundw
          case rel => exact ⟨k + 1, _, by go_num, by omega, h4, hbw.trans b4, HN.out.symm⟩
          case measure => simp [intOf]; omega
        · have q2 : ((c.toNat : Int) == 60) = false := u8_beq h2
          by_cases h3 : c = 62
          · subst h3
            go_wp2_with fail
            refine (WriteString_any (s := ⟨#[38, 103, 116, 59]⟩) (m := [38, 103, 116, 59]) rfl hB (by simp; omega) hww).mono ?_
            rintro e W4 ⟨rfl, h4, b4, k4⟩
            go_wp2
            go_roundw
            case rel => exact ⟨k + 1, _, by go_num, by omega, h4, hbw.trans b4, HN.out.symm⟩
            case measure => simp [intOf]; omega
          · have q3 : ((c.toNat : Int) == 62) = false := u8_beq h3
            by_cases h4 : c = 34
            · subst h4
              cases v with
              | true =>
                go_wp2_with fail
                refine (WriteString_any (s := ⟨#[38, 113, 117, 111, 116, 59]⟩) (m := [38, 113, 117, 111, 116, 59]) rfl hB (by simp; omega) hww).mono ?_
                rintro e W4 ⟨rfl, h4, b4, k4⟩
                go_wp2
                go_roundw
                case rel => exact ⟨k + 1, _, by go_num, by omega, h4, hbw.trans b4, HN.out.symm⟩
                case measure => simp [intOf]; omega
              | false =>
                go_wp2_with fail
                refine (WriteByte_any 34 hB (by omega) hww).mono ?_
                rintro e W4 ⟨rfl, h4, b4, k4⟩
                go_wp2
                go_roundw
                case rel => exact ⟨k + 1, _, by go_num, by omega, h4, hbw.trans b4, HN.out.symm⟩
                case measure => simp [intOf]; omega
            · have q4 : ((c.toNat : Int) == 34) = false := u8_beq h4
              have HE := Lib.hid (escB_one v h1 h2 h3 (fun h => h4 h.1))
              clear h1 h2 h3 h4
              go_wp2_with fail
              refine (WriteByte_any c hB (by omega) hww).mono ?_
              rintro e W4 ⟨rfl, h4, b4, k4⟩
              go_wp2
              go_roundw
              case rel => exact ⟨k + 1, _, by go_num, by omega, h4, hbw.trans b4, by rw [HN.out, HE.out]⟩
              case measure => simp [intOf]; omega
    · have HE := Lib.hid (show acc = esc v l by rw [hacc, List.take_of_length_le (by omega)])
      clear hacc hsz
      go_wp2_with fail
      refine (BString_any hB hww).mono ?_
      rintro e W3 ⟨u, rfl, hu, _, b3, _⟩
      have HUU := Lib.hid hu
      go_wp2
      go_ret
      exact ⟨u, rfl, HE.out ▸ HUU.out, hbw.trans b3⟩
end Go.Proofs.Ytjobaciajfoneaa
