/- The walks of the package utf, further: Right. -/
import Derived.Test.YtpfaojghaggagaaDoorUw4
namespace Go.Proofs.YtpfaojghaggagaaDoor
open Go.RowKit

theorem fix_skip (t : List Int) : fix true (10 :: t) = fix false t := by simp [fix]
theorem fix_return (ret : Bool) (t : List Int) : fix ret (13 :: t) = 10 :: fix true t := by simp [fix]
theorem fix_zero (ret : Bool) (t : List Int) : fix ret (0 :: t) = 65533 :: fix false t := by simp [fix]
theorem fix_other {ret : Bool} {r : Int} (t : List Int) (h10 : r = 10 → ret = false) (h13 : r ≠ 13) (h0 : r ≠ 0) : fix ret (r :: t) = r :: fix false t := by
  have e : (r == 13) = false := by simp [h13]
  simp only [fix, e]
  rw [if_neg (fun h => by have := h10 h.1; rw [this] at h; cases h.2), if_neg h13, if_neg h0]
  rfl

theorem enc_ret : Lib.encodeRune 10 = [10] := by decide

set_option maxHeartbeats 1000000 in
/-- utf.Right: bytes made right -/
theorem Right_any {w : World} {n c : Nat} {A : Option Addr} {l : List UInt8} (hr : Rd w w.heap.size 1 A n (Lib.byteCells l)) (hn : n ≤ 1000000) :
    Calls Tryd.prog 11 #[.slice A n c] w fun e w' => ∃ t, e = .returned (.string t) ∧ IsStr t (right l) ∧ Below w.heap.size w w' := by
  have hl : l.length = n := by rw [← hr.len, Lib.byteCells_length]
  obtain ⟨s, hs⟩ : ∃ s, IsStr s l := ⟨_, IsStr.mk l⟩
  have hss : s.size = n := by rw [hs.size, hl]
  have hcv := fun c => run_bytes_str (P := Tryd.prog) (hr.alloc (Nat.le_refl _) (.cells #[.pointer none, .slice none 0 0] 40)) 22 5 9 c Tryd.underlying22 Tryd.underlying5 Tryd.underlying9
  rw [← hs.to] at hcv
  have HS := Lib.hid hs
  have HSS := Lib.hid hss
  have hsb : s.size ≤ 1000000 := by omega
  clear hs hss
  go_enter Tryd.func11, Tryd.ntmps11
  go_wp2
  clear hcv
  have hs := HS.out
  have hss := HSS.out
  go_loopw [4] (fun v wr => ∃ (pos : Nat) (acc : List UInt8) (ret : Bool), v = .bool ret ∧ Bld w.heap.size w.heap.size acc wr ∧ wr.heap[w.heap.size + 1]? = some (.stringIter s pos) ∧ Below w.heap.size w wr ∧
      acc ++ enc (fix ret (runes (l.drop pos))) = right l ∧ acc.length ≤ 4 * pos) (fun _ wr => s.size - wr.iterPos (w.heap.size + 1))
  case atStart =>
    refine ⟨0, [], false, rfl, (Bld.fresh w).alloc _, ?_, ((Below.refl _ w).alloc (Nat.le_refl _) _).alloc (by simp) _, rfl, Nat.le_refl _⟩
    have := World.iter_heap (w.alloc (.cells #[.pointer none, .slice none 0 0] 40)) s 0
    simpa using this
  case round =>
    obtain ⟨pos, acc, ret, rfl, hB, hit, hbw, hacc, hal⟩ := hrel
    have hsz : w.heap.size + 1 < wr.heap.size := (Array.getElem?_eq_some_iff.1 hit).1
    by_cases hp : pos < s.size
    · have hnx : ∀ ty, (Instr.next (.pointer (some ⟨w.heap.size + 1, 0, none⟩)) true ty).run Tryd.prog wr = _ := fun ty => Lib.run_next_any_at wr (w.heap.size + 1) s pos ty hit hp
      have hwd := Lib.width_pos s pos
      have hd1 := decode_le s pos
      have hne : l.drop pos ≠ [] := by intro e; have := congrArg List.length e; simp at this; omega
      have hst := runes_step _ hne
      rw [← decode_str hs, List.drop_drop] at hst
      have hB2 := hB.iterAt hit (pos + (Utf8.decode s pos).2)
      have hit2 := Lib.iterAt_heap wr (w.heap.size + 1) s pos (pos + (Utf8.decode s pos).2) hit
      have hbw2 := Lib.below_iterAt hbw (k := w.heap.size + 1) (by omega) s (pos + (Utf8.decode s pos).2)
      have hsz2 : w.heap.size ≤ (wr.iterAt (w.heap.size + 1) s (pos + (Utf8.decode s pos).2)).heap.size := by rw [Lib.iterAt_size]; omega
      rw [hst] at hacc
      have HACC := Lib.hid hacc
      have hmeas : wr.iterPos (w.heap.size + 1) = pos := by simp only [World.iterPos, hit]
      have HM := Lib.hid hmeas
      clear hacc hst hs hss hl hne hmeas hB hbw
      generalize hW2 : wr.iterAt (w.heap.size + 1) s (pos + (Utf8.decode s pos).2) = W2 at *
      have HW2 := Lib.hid hW2
      clear hW2
      generalize (Utf8.decode s pos).1 = r at *
      generalize (Utf8.decode s pos).2 = wd at *
      by_cases h13 : r = 13
      · subst h13
        go_wp2_with (go_at_call 26; refine (WriteByte_any 10 hB2 (by omega) hsz2).mono ?_; rintro e W1 ⟨rfl, h1, b1, k1⟩)
        have hit3 := k1.iter hit2 (by omega)
        go_roundw
        case rel =>
          refine ⟨pos + wd, acc ++ [10], true, rfl, h1, hit3, hbw2.trans b1, ?_, by simp; omega⟩
          rw [← HACC.out, show ((13 : Nat) : Int) = 13 from rfl, fix_return, enc_cons, enc_ret]
          simp
        case measure =>
          rw [HM.out]
          simp only [World.iterPos, hit3]
          omega
      · by_cases h0 : r = 0
        · subst h0
          go_wp2_with (go_at_call 27; refine (WriteRune_any 65533 (by omega) (by omega) hB2 (by omega) hsz2).mono ?_; rintro e W1 ⟨rfl, h1, b1, k1⟩)
          have hit3 := k1.iter hit2 (by omega)
          go_roundw
          case rel =>
            refine ⟨pos + wd, acc ++ Lib.encodeRune 65533, false, rfl, h1, hit3, hbw2.trans b1, ?_, by have := encodeRune_length 65533; simp; omega⟩
            rw [← HACC.out, show ((0 : Nat) : Int) = 0 from rfl, fix_zero, enc_cons]
            simp
          case measure =>
            rw [HM.out]
            simp only [World.iterPos, hit3]
            omega
        · have e13 : ((r : Int) == 13) = false := by simp; omega
          have e0 : ((r : Int) == 0) = false := by simp; omega
          by_cases h10 : r = 10 ∧ ret = true
          · obtain ⟨rfl, rfl⟩ := h10
            go_wp2
            go_roundw
            case rel =>
              refine ⟨pos + wd, acc, false, rfl, hB2, hit2, hbw2, ?_, by omega⟩
              rw [← HACC.out, show ((10 : Nat) : Int) = 10 from rfl, fix_skip]
            case measure =>
              rw [HM.out]
              simp only [World.iterPos, hit2]
              omega
          · have hfix : fix ret ((r : Int) :: runes (l.drop (pos + wd))) = (r : Int) :: fix false (runes (l.drop (pos + wd))) :=
              fix_other _ (fun h => by cases ret with | false => rfl | true => exact absurd ⟨by omega, rfl⟩ h10) (by omega) (by omega)
            have HF := Lib.hid hfix
            clear hfix
            have hq : ∀ (W1 : World), Bld w.heap.size w.heap.size (acc ++ Lib.encodeRune r) W1 → Below w.heap.size W2 W1 → Oth w.heap.size W2 W1 →
                W1.heap[w.heap.size + 1]? = some (.stringIter s (pos + wd)) ∧ acc ++ Lib.encodeRune r ++ enc (fix false (runes (l.drop (pos + wd)))) = right l ∧ (acc ++ Lib.encodeRune r).length ≤ 4 * (pos + wd) := by
              intro W1 h1 b1 k1
              refine ⟨k1.iter hit2 (by omega), ?_, by have := encodeRune_length (r : Int); simp; omega⟩
              rw [← HACC.out, HF.out, enc_cons]
              simp
            have HQ := Lib.hid hq
            clear hq
            cases ret with
            | false =>
              by_cases h10' : r = 10
              all_goals
                go_wp2_with (go_at_call 27; refine (WriteRune_any _ (by omega) (by omega) hB2 (by omega) hsz2).mono ?_; rintro e W1 ⟨rfl, h1, b1, k1⟩)
                obtain ⟨hit3, q2, q3⟩ := HQ.out W1 (by first | exact h1 | (subst h10'; exact h1)) b1 k1
                have Q2 := Lib.hid q2
                clear q2
                go_roundw
                case rel => exact ⟨pos + wd, acc ++ Lib.encodeRune r, false, rfl, (by first | exact h1 | (subst h10'; exact h1)), hit3, hbw2.trans b1, Q2.out, q3⟩
                case measure =>
                  rw [HM.out]
                  simp only [World.iterPos, hit3]
                  omega
            | true =>
              have e10 : ((r : Int) == 10) = false := by simp; intro e; exact h10 ⟨by omega, rfl⟩
              go_wp2_with (go_at_call 27; refine (WriteRune_any _ (by omega) (by omega) hB2 (by omega) hsz2).mono ?_; rintro e W1 ⟨rfl, h1, b1, k1⟩)
              obtain ⟨hit3, q2, q3⟩ := HQ.out W1 h1 b1 k1
              have Q2 := Lib.hid q2
              clear q2
              go_roundw
              case rel => exact ⟨pos + wd, acc ++ Lib.encodeRune r, false, rfl, h1, hit3, hbw2.trans b1, Q2.out, q3⟩
              case measure =>
                rw [HM.out]
                simp only [World.iterPos, hit3]
                omega
    · have hnx : ∀ ty, (Instr.next (.pointer (some ⟨w.heap.size + 1, 0, none⟩)) true ty).run Tryd.prog wr = _ := fun ty => Lib.run_next_end_at wr (w.heap.size + 1) s pos ty hit hp
      have he : acc = right l := by
        rw [← hacc, List.drop_of_length_le (by omega), runes_nil]
        simp [fix, enc]
      have HE := Lib.hid he
      clear hss hl he hacc
      go_wp2_with (go_at_call 28; refine (BString_any hB (by omega)).mono ?_; rintro e W1 ⟨t, rfl, ht, _, b1, _⟩)
      go_ret
      exact ⟨t, rfl, HE.out ▸ ht, hbw.trans b1⟩
end Go.Proofs.YtpfaojghaggagaaDoor
