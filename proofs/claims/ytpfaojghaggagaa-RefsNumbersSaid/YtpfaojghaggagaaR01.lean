/- The law RefsWrites. -/
import Derived.Test.YtpfaojghaggagaaRw7
namespace Go.Proofs.Ytpfaojghaggagaa
open Go.RowKit

theorem take_200 (l : List UInt8) : (l.take 200).length ≤ 200 := by rw [List.length_take]; omega

set_option maxRecDepth 100000 in
/-- strainerlaw02.RefsWrites -/
theorem RefsWrites_calls {w : World} (s0 : ByteArray) (hs0 : s0.size ≤ maxLen) (v : Bool) :
    Calls Try.prog 3 #[.string s0, .bool v] w fun e w' => e = .returned (.bool true) ∧ Below w.heap.size w w' := by
  have hst := IsStr.of s0
  generalize s0.data.toList = l0 at hst
  have HST := Lib.hid hst
  have hle := take_200 l0
  clear hst
  go_enter Try.func3, Try.ntmps3
  go_wp2_with fail
  refine (few2_any HST.out hs0).mono ?_
  rintro e W1 ⟨s, rfl, hs, b1⟩
  generalize l0.take 200 = l at *
  have HS := Lib.hid hs
  have hlen := esc_length v l
  clear hs
  go_wp2_with fail
  refine (Escape_any HS.out (by omega) v).mono ?_
  rintro e W2 ⟨t, rfl, ht, b2⟩
  have B2 := bt b1 b2
  have HT := Lib.hid ht
  clear ht b1 b2
  go_wp2_with fail
  refine (REscape_any HS.out (by omega) v).mono ?_
  rintro e W3 ⟨u, rfl, hu, b3⟩
  obtain rfl := hu.eq HT.out rfl
  have B3 := bt B2 b3
  clear hu b3 B2
  go_wp2_with fail
  refine (Decode_any HT.out (by omega)).mono ?_
  rintro e W4 ⟨d, rfl, hd, b4⟩
  rw [dec_esc_self] at hd
  obtain rfl := hd.eq HS.out rfl
  have B4 := bt B3 b4
  clear hd b4 B3
  go_wp2_with fail
  refine (lives02 _).mono ?_
  rintro e W5 ⟨rfl, b5⟩
  go_wp2
  go_ret
  exact ⟨rfl, bt B4 b5⟩
end Go.Proofs.Ytpfaojghaggagaa
