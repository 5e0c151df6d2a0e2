/- The walks of the package utf, further: Prefix, Text, Right. -/
import Derived.Test.YtninjljkdbemkaaUw3
namespace Go.Proofs.Ytninjljkdbemkaa
open Go.RowKit

/-- does a text begin with a word, but for capital letters? -/
def prefixed (l m : List UInt8) : Bool := decide (m.length ≤ l.length) && ((l.take m.length).map lower == m)

theorem prefixed_short {l m : List UInt8} (h : l.length < m.length) : prefixed l m = false := by simp [prefixed]; omega
theorem prefixed_no {l m : List UInt8} {k : Nat} (hl : k < l.length) (hm : k < m.length) (h : lower l[k] ≠ m[k]) : prefixed l m = false := by
  simp only [prefixed, Bool.and_eq_false_iff]
  right
  rw [beq_eq_false_iff_ne]
  intro e
  apply h
  have := congrArg (·[k]?) e
  simp [List.getElem?_take, hm, List.getElem?_eq_getElem hl] at this
  exact this
theorem prefixed_yes {l m : List UInt8} (hl : m.length ≤ l.length) (h : (l.take m.length).map lower = m) : prefixed l m = true := by
  simp [prefixed, hl, h]

theorem lower_ne {a b : UInt8} (h : lower a ≠ b) : (((lower a).toNat : Int) != (b.toNat : Int)) = true := by
  rw [bne_iff_ne]
  intro e
  apply h
  exact UInt8.toNat_inj.1 (by omega)
theorem lower_eq {a b : UInt8} (h : lower a = b) : (((lower a).toNat : Int) != (b.toNat : Int)) = false := by
  rw [h]; simp

set_option maxHeartbeats 400000 in
/-- utf.Prefix -/
theorem Prefix_any {w : World} {s t : ByteArray} {l m : List UInt8} (hs : IsStr s l) (ht : IsStr t m) (hl : l.length ≤ 1000000) (hm : m.length ≤ 1000000) :
    Calls Try.prog 48 #[.string s, .string t] w fun e w' => e = .returned (.bool (prefixed l m)) ∧ Below w.heap.size w w' := by
  have hss := hs.size
  have hts := ht.size
  have hsb : s.size ≤ 1000000 := by omega
  have htb : t.size ≤ 1000000 := by omega
  by_cases hlen : s.size < t.size
  · have hp := prefixed_short (l := l) (m := m) (by omega)
    rw [hp]
    clear hss hts hp
    go_enter Try.func48, Try.ntmps48
    go_wp2
    go_ret
    exact ⟨rfl, Below.refl _ _⟩
  · have HSS := Lib.hid hss
    have HTS := Lib.hid hts
    clear hss hts
    go_enter Try.func48, Try.ntmps48
    go_wp2
    go_loopw [13] (fun i wr => ∃ k : Nat, i = .int .i64 k ∧ k ≤ t.size ∧ Below w.heap.size w wr ∧ (l.take k).map lower = m.take k) (fun i _ => t.size - (intOf i).toNat)
    case atStart => exact ⟨0, rfl, Nat.zero_le _, Below.refl _ _, by simp⟩
    case round =>
      obtain ⟨k, rfl, hk, hbw, hpre⟩ := hrel
      have HP := Lib.hid hpre
      clear hpre
      have hss := HSS.out
      have hts := HTS.out
      by_cases hlt : k < t.size
      · have hks : k < s.size := by omega
        have hkl : k < l.length := by omega
        have hkm : k < m.length := by omega
        have e1 := getElem_str hs k hks hkl
        have e2 := getElem_str ht k hlt hkm
        have g0 : (0 : Int) ≤ (k : Int) := by omega
        have g1 : (k : Int) < (s.size : Int) := by omega
        have g2 : (k : Int) < (t.size : Int) := by omega
        by_cases heq : lower l[k] = m[k]
        · have hd := lower_eq heq
          have hnext : (l.take (k + 1)).map lower = m.take (k + 1) := by
            rw [List.take_succ_eq_append_getElem hkl, List.take_succ_eq_append_getElem hkm, List.map_append, HP.out, List.map_cons, List.map_nil, heq]
          have HN := Lib.hid hnext
          rw [← e1, ← e2] at hd
          clear hnext heq e1 e2 hss hts
          go_wp2
          go_quiet ((go_at_call 66; exact Calls.quiet_of_same (small_any _ _)))
          go_wp2
          go_roundw
          case rel => exact ⟨k + 1, by go_num, by omega, below_drewN hbw _, HN.out⟩
          case measure => simp [intOf]; omega
        · have hd := lower_ne heq
          have HPR := Lib.hid (prefixed_no hkl hkm heq)
          rw [← e1, ← e2] at hd
          clear e1 e2 hss hts heq
          go_wp2
          go_quiet ((go_at_call 66; exact Calls.quiet_of_same (small_any _ _)))
          go_wp2
          go_ret
          exact ⟨ret_bool HPR.out.symm, below_drewN hbw _⟩
      · have hp := prefixed_yes (l := l) (m := m) (by omega) (by rw [show m.length = k by omega, HP.out, List.take_of_length_le (by omega)])
        have HPR := Lib.hid hp
        clear hp hss hts
        go_wp2
        go_ret
        exact ⟨ret_bool HPR.out.symm, hbw⟩
end Go.Proofs.Ytninjljkdbemkaa
