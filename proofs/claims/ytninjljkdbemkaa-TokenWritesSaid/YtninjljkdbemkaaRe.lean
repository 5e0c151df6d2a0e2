/- The walk of strainerref02.Escape. -/
import Derived.Test.YtninjljkdbemkaaRw6
namespace Go.Proofs.Ytninjljkdbemkaa
open Go.RowKit

set_option maxHeartbeats 1000000 in
set_option maxRecDepth 100000 in
theorem REscape_any {w : World} {s : ByteArray} {l : List UInt8} (hs : IsStr s l) (hl : l.length ≤ 1000000) (v : Bool) :
    Calls Try.prog 35 #[.string s, .bool v] w fun e w' => ∃ t, e = .returned (.string t) ∧ IsStr t (esc v l) ∧ Below w.heap.size w w' := by
  have hsz := hs.size
  have hsb : s.size ≤ 1000000 := by omega
  have HS := Lib.hid hs
  have HSZ := Lib.hid hsz
  clear hs hsz
  go_enter Try.func35, Try.ntmps35
  go_wp2
  go_loopw [5, 6] (fun o i wr => ∃ (k : Nat) (t : ByteArray) (acc : List UInt8), o = .string t ∧ i = .int .i64 k ∧ k ≤ s.size ∧ IsStr t acc ∧ Below w.heap.size w wr ∧ acc = esc v (l.take k)) (fun _ i _ => s.size - (intOf i).toNat)
  case atStart => exact ⟨0, _, [], rfl, rfl, Nat.zero_le _, rfl, Below.refl _ w, rfl⟩
  case round =>
    obtain ⟨k, t, acc, rfl, rfl, hk, ht, hbw, hacc⟩ := hrel
    have hsz := HSZ.out
    have hal : acc.length ≤ 6000000 := by
      rw [hacc]
      have := (esc_length v (l.take k)).2
      rw [List.length_take] at this
      omega
    have hts := ht.size
    have htb : t.size ≤ 6000000 := by omega
    by_cases hlt : k < s.size
    · have hkl : k < l.length := by omega
      have e1 := s_byte HS.out k hlt hkl
      have hnext := esc_next v hkl
      rw [← hacc, ← e1] at hnext
      have HN := Lib.hid hnext
      have HT := Lib.hid ht
      have hone : IsStr (s.extract k (k + 1)) [s[k]] := by
        have := s_part HS.out k (k + 1)
        rw [List.drop_eq_getElem_cons hkl, show k + 1 - k = 1 by omega, List.take_succ_cons, List.take_zero, ← e1] at this
        exact this
      have HO := Lib.hid hone
      clear hnext hacc e1 hsz ht hts hone
      generalize hc : s[k] = c at *
      by_cases h1 : c = 38
      · subst h1
        go_wp2
        go_roundw
        case rel => exact ⟨k + 1, _, _, rfl, by go_num, by omega, s_append (u := ⟨#[38, 97, 109, 112, 59]⟩) (m := [38, 97, 109, 112, 59]) HT.out rfl, hbw, HN.out.symm⟩
        case measure => simp [intOf]; omega
      · have q1 : ((c.toNat : Int) == 38) = false := u8_beq h1
        by_cases h2 : c = 60
        · subst h2
          go_wp2
          go_roundw
          case rel => exact ⟨k + 1, _, _, rfl, by go_num, by omega, s_append (u := ⟨#[38, 108, 116, 59]⟩) (m := [38, 108, 116, 59]) HT.out rfl, hbw, HN.out.symm⟩
          case measure => simp [intOf]; omega
        · have q2 : ((c.toNat : Int) == 60) = false := u8_beq h2
          by_cases h3 : c = 62
          · subst h3
            go_wp2
            go_roundw
            case rel => exact ⟨k + 1, _, _, rfl, by go_num, by omega, s_append (u := ⟨#[38, 103, 116, 59]⟩) (m := [38, 103, 116, 59]) HT.out rfl, hbw, HN.out.symm⟩
            case measure => simp [intOf]; omega
          · have q3 : ((c.toNat : Int) == 62) = false := u8_beq h3
            by_cases h4 : c = 34
            · subst h4
              cases v with
              | true =>
                go_wp2
                go_roundw
                case rel => exact ⟨k + 1, _, _, rfl, by go_num, by omega, s_append (u := ⟨#[38, 113, 117, 111, 116, 59]⟩) (m := [38, 113, 117, 111, 116, 59]) HT.out rfl, hbw, HN.out.symm⟩
                case measure => simp [intOf]; omega
              | false =>
                go_wp2
                go_roundw
                case rel => exact ⟨k + 1, _, _, rfl, by go_num, by omega, s_append HT.out HO.out, hbw, HN.out.symm⟩
                case measure => simp [intOf]; omega
            · have q4 : ((c.toNat : Int) == 34) = false := u8_beq h4
              have HE := Lib.hid (escB_one v h1 h2 h3 (fun h => h4 h.1))
              clear h1 h2 h3 h4
              go_wp2
              go_roundw
              case rel => exact ⟨k + 1, _, _, rfl, by go_num, by omega, s_append HT.out HO.out, hbw, by rw [HN.out, HE.out]⟩
              case measure => simp [intOf]; omega
    · have HE := Lib.hid (show acc = esc v l by rw [hacc, List.take_of_length_le (by omega)])
      have HT := Lib.hid ht
      clear hacc hsz ht hts
      go_wp2
      go_ret
      exact ⟨t, rfl, HE.out ▸ HT.out, hbw⟩

end Go.Proofs.Ytninjljkdbemkaa
