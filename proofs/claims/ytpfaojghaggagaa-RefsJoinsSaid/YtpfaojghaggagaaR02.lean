/- The laws RefsPlain, RefsJoins. -/
import Derived.Test.YtpfaojghaggagaaR01
namespace Go.Proofs.Ytpfaojghaggagaa
open Go.RowKit

theorem cut100 {s : ByteArray} {l : List UInt8} (hs : IsStr s l) : ∃ t, IsStr t (l.take 100) ∧ ((100 < s.size ∧ s.extract 0 100 = t) ∨ (s.size ≤ 100 ∧ s = t)) := by
  have hsz := hs.size
  by_cases h : 100 < s.size
  · exact ⟨_, s_take hs 100, .inl ⟨h, rfl⟩⟩
  · exact ⟨s, by rw [List.take_of_length_le (by omega)]; exact hs, .inr ⟨by omega, rfl⟩⟩
theorem take_100 (l : List UInt8) : (l.take 100).length ≤ 100 := by rw [List.length_take]; omega

set_option maxHeartbeats 1000000 in
set_option maxRecDepth 100000 in
/-- strainerlaw02.RefsJoins -/
theorem RefsJoins_calls {w : World} (s0 : ByteArray) (hs0 : s0.size ≤ maxLen) (s1 : ByteArray) (hs1 : s1.size ≤ maxLen) (v : Bool) :
    Calls Try.prog 5 #[.string s0, .string s1, .bool v] w fun e w' => e = .returned (.bool true) ∧ Below w.heap.size w w' := by
  unfold maxLen at hs0 hs1
  have h0 := IsStr.of s0
  generalize s0.data.toList = l0 at h0
  obtain ⟨a, ha, ca⟩ := cut100 h0
  have h1 := IsStr.of s1
  generalize s1.data.toList = l1 at h1
  obtain ⟨b, hb, cb⟩ := cut100 h1
  have hal := take_100 l0
  have hbl := take_100 l1
  generalize l0.take 100 = l at *
  generalize l1.take 100 = m at *
  have haz := ha.size
  have hbz := hb.size
  have hab : a.size ≤ 100 := by omega
  have hbb : b.size ≤ 100 := by omega
  have HA := Lib.hid ha
  have HB := Lib.hid hb
  have hel := esc_length v l
  have hem := esc_length v m
  clear haz hbz ha hb h0 h1
  have hl : l.length ≤ 1000000 := by omega
  have hm : m.length ≤ 1000000 := by omega
  have hlm : (l ++ m).length ≤ 1000000 := by rw [List.length_append]; omega
  have hlm2 : (esc v l ++ esc v m).length ≤ 1000000 := by rw [List.length_append]; omega
  rcases ca with ⟨qa, ea⟩ | ⟨qa, ea⟩ <;> rcases cb with ⟨qb, eb⟩ | ⟨qb, eb⟩
  all_goals
    try subst ea
    try subst eb
    go_enter Try.func5, Try.ntmps5
    go_wp2_with fail
    refine (Escape_any HA.out hl v).mono ?_
    rintro e W1 ⟨t, rfl, ht, b1⟩
    have hts := ht.size
    have htb : t.size ≤ 600 := by omega
    have HT := Lib.hid ht
    clear ht hts
    go_wp2_with fail
    refine (Escape_any HB.out hm v).mono ?_
    rintro e W2 ⟨u, rfl, hu, b2⟩
    have hus := hu.size
    have hub : u.size ≤ 600 := by omega
    have HU := Lib.hid hu
    have B2 := bt b1 b2
    clear hu hus b1 b2
    go_wp2_with fail
    refine (Escape_any (s_append HA.out HB.out) hlm v).mono ?_
    rintro e W3 ⟨x, rfl, hx, b3⟩
    obtain rfl := hx.eq (s_append HT.out HU.out) (esc_append _ _ _)
    have B3 := bt B2 b3
    clear hx B2 b3
    go_wp2_with fail
    refine (Decode_any (s_append HT.out HU.out) hlm2).mono ?_
    rintro e W4 ⟨d, rfl, hd, b4⟩
    rw [← esc_append, dec_esc_self] at hd
    obtain rfl := hd.eq (s_append HA.out HB.out) rfl
    have B4 := bt B3 b4
    clear hd B3 b4
    go_wp2_with fail
    refine (lives02 _).mono ?_
    rintro e W5 ⟨rfl, b5⟩
    go_wp2
    go_ret
    exact ⟨rfl, bt B4 b5⟩

def plainB (l : List UInt8) : Bool := l.all fun c => c != 38
theorem plainB_next {l : List UInt8} {k : Nat} (hk : k < l.length) : plainB (l.take (k + 1)) = (plainB (l.take k) && (l[k] != 38)) := by
  unfold plainB
  rw [List.take_succ_eq_append_getElem hk, List.all_append]
  simp
theorem plainB_dec {l : List UInt8} (h : plainB l = true) : dec l = l := by
  have := dec_plain l [] (fun c hc => by
    have := List.all_eq_true.1 h c hc
    simpa using this)
  rwa [List.append_nil, dec_nil, List.append_nil] at this
theorem u8_bne {a b : UInt8} : ((a.toNat : Int) != (b.toNat : Int)) = (a != b) := by
  by_cases h : a = b
  · subst h; simp
  · rw [bne_iff_ne.2 h, bne_iff_ne]
    intro e
    exact h (UInt8.toNat_inj.1 (by omega))

set_option maxHeartbeats 1000000 in
set_option maxRecDepth 100000 in
/-- strainerlaw02.RefsPlain -/
theorem RefsPlain_calls {w : World} (s0 : ByteArray) (hs0 : s0.size ≤ maxLen) :
    Calls Try.prog 4 #[.string s0] w fun e w' => e = .returned (.bool true) ∧ Below w.heap.size w w' := by
  have hst := IsStr.of s0
  generalize s0.data.toList = l0 at hst
  have HST := Lib.hid hst
  have hle := take_200 l0
  clear hst
  go_enter Try.func4, Try.ntmps4
  go_wp2_with fail
  refine (few2_any HST.out hs0).mono ?_
  rintro e W1 ⟨s, rfl, hs, b1⟩
  generalize l0.take 200 = l at *
  have HS := Lib.hid hs
  have HSZ := Lib.hid hs.size
  have hsb : s.size ≤ 200 := by have := hs.size; omega
  have hlen := esc_length true l
  clear hs
  go_wp2
  go_loopw [3, 4] (fun p i wr => ∃ (k : Nat) (b : Bool), p = .bool b ∧ i = .int .i64 k ∧ k ≤ s.size ∧ Below w.heap.size w wr ∧ plainB (l.take k) = b) (fun _ i _ => s.size - (intOf i).toNat)
  case atStart => exact ⟨0, true, rfl, rfl, Nat.zero_le _, b1, rfl⟩
  case round =>
    obtain ⟨k, b, rfl, rfl, hk, hbw, hb⟩ := hrel
    have hsz := HSZ.out
    by_cases hlt : k < s.size
    · have hkl : k < l.length := by omega
      have e1 := s_byte HS.out k hlt hkl
      have hn := plainB_next hkl
      rw [hb, ← e1] at hn
      have HN := Lib.hid hn
      clear hn e1 hb hsz
      generalize hc : s[k] = c at *
      cases b with
      | false =>
        go_wp2
        go_roundw
        case rel => exact ⟨k + 1, false, rfl, by go_num, by omega, hbw, HN.out⟩
        case measure => simp [intOf]; omega
      | true =>
        have hcb : ((c.toNat : Int) != 38) = (c != 38) := u8_bne (b := 38)
        generalize hd : (c != 38) = d at *
        have HN2 := Lib.hid (show plainB (l.take (k + 1)) = d by rw [HN.out]; simp)
        clear hd HN
        go_wp2
        go_roundw
        case rel => exact ⟨k + 1, d, (by first | rfl | rw [hcb]), by go_num, by omega, hbw, HN2.out⟩
        case measure => simp [intOf]; omega
    · have HB := Lib.hid (show plainB l = b by rw [← hb, List.take_of_length_le (by omega)])
      clear hb hsz
      go_wp2_with fail
      refine (Escape_any HS.out (by omega) true).mono ?_
      rintro e W2 ⟨t, rfl, ht, b2⟩
      have HT := Lib.hid ht
      have HTZ := Lib.hid ht.size
      have htb : t.size ≤ 1200 := by have := ht.size; omega
      have B2 := bt hbw b2
      clear ht b2 hbw
      go_wp2
      go_loopw [6] (fun i wr => ∃ (k : Nat), i = .int .i64 k ∧ k ≤ t.size ∧ Below w.heap.size w wr) (fun i _ => t.size - (intOf i).toNat)
      case atStart => exact ⟨0, rfl, Nat.zero_le _, B2⟩
      case round =>
        obtain ⟨k, rfl, hk, hbw⟩ := hrel
        by_cases hlt : k < t.size
        · have hkl : k < (esc true l).length := by have := HTZ.out; omega
          have e1 := s_byte HT.out k hlt hkl
          obtain ⟨c1, c2, c3⟩ := esc_bare true l _ (List.getElem_mem hkl)
          have c3 := c3 rfl
          rw [← e1] at c1 c2 c3
          have q1 : (((t[k]).toNat : Int) == 60) = false := u8_beq c1
          have q2 : (((t[k]).toNat : Int) == 62) = false := u8_beq c2
          have q3 : (((t[k]).toNat : Int) == 34) = false := u8_beq c3
          clear c1 c2 c3 e1
          go_wp2
          go_roundw
          case rel => exact ⟨k + 1, by go_num, by omega, hbw⟩
          case measure => simp [intOf]; omega
        · cases b with
          | false =>
            go_wp2_with fail
            refine (lives02 _).mono ?_
            rintro e W5 ⟨rfl, b5⟩
            go_wp2
            go_ret
            exact ⟨rfl, bt hbw b5⟩
          | true =>
            go_wp2_with fail
            refine (Decode_any HS.out (by omega)).mono ?_
            rintro e W4 ⟨d, rfl, hd, b4⟩
            rw [plainB_dec HB.out] at hd
            obtain rfl := hd.eq HS.out rfl
            have B4 := bt hbw b4
            clear hd b4 hbw
            go_wp2_with fail
            refine (lives02 _).mono ?_
            rintro e W5 ⟨rfl, b5⟩
            go_wp2
            go_ret
            exact ⟨rfl, bt B4 b5⟩
end Go.Proofs.Ytpfaojghaggagaa
