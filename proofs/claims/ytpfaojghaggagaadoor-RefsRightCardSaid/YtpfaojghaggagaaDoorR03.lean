/- The law RefsRight. -/
import Derived.Test.YtpfaojghaggagaaDoorRw7
import Derived.Test.YtpfaojghaggagaaDoorRight
import Derived.Test.YtpfaojghaggagaaDoorU01e
namespace Go.Proofs.YtpfaojghaggagaaDoor
open Go.RowKit

set_option maxHeartbeats 1000000 in
set_option maxRecDepth 100000 in
/-- strainerlaw02.RefsRight -/
theorem RefsRight_calls {w : World} {n c : Nat} {A : Option Addr} {l : List UInt8} (hr : Rd w w.heap.size 1 A n (Lib.byteCells l)) (hnc : n ≤ c) (hc : c ≤ maxLen) (hT : Tabs w) :
    Calls Tryd.prog 9 #[.slice A n c] w fun e w' => e = .returned (.bool true) ∧ Below w.heap.size w w' := by
  have HT := Lib.hid hT
  have hl : l.length = n := by rw [← hr.len, Lib.byteCells_length]
  obtain ⟨s0, hst⟩ : ∃ s, IsStr s l := ⟨_, IsStr.mk l⟩
  have hss : s0.size ≤ maxLen := by rw [hst.size]; omega
  have hcv := fun c => run_bytes_str (P := Tryd.prog) hr 22 5 9 c Tryd.underlying22 Tryd.underlying5 Tryd.underlying9
  rw [← hst.to] at hcv
  have HST := Lib.hid hst
  have hle := len_take l 200
  clear hT hl hst
  go_enter Tryd.func9, Tryd.ntmps9
  go_wp2_with fail
  clear hcv
  refine (few2_any HST.out hss).mono ?_
  rintro e W1 ⟨s, rfl, hs, b1⟩
  generalize l.take 200 = m at *
  have hsz := hs.size
  have hsb : s.size ≤ 200 := by omega
  have HS := Lib.hid hs
  have hcb := fun (w : World) => run_bytes_of_string (P := Tryd.prog) w 9 22 5 s Tryd.underlying9 Tryd.underlying22 Tryd.underlying5
  have hcap : ∀ W : World, s.size ≤ grownCap W s.size 0 5 ∧ grownCap W s.size 0 5 ≤ maxLen := fun W => ⟨grownCap_ge _ _ _ _, grownCap_le_maxLen _ _ _ _ (by unfold maxLen; omega)⟩
  clear hs hsz
  go_wp2_with fail
  refine (RefRight_any (bytes_rd HS.out W1 _ _ _) (hcap W1).1 (hcap W1).2 (by omega)).mono ?_
  rintro e W2 ⟨t, rfl, ht, b2⟩
  have B2 := bt b1 (bt (bytes_below W1 _) b2)
  have hri := right_is m
  have hrl := right_length m
  generalize right m = r at *
  have HTT := Lib.hid ht
  have HRI := Lib.hid hri
  have hd1 := dec_length r
  have hd2 := esc_length true r
  clear ht hri b1 b2 hcb hcap
  have hr1 : r.length ≤ 1000000 := by omega
  have hr2 : (dec r).length ≤ 4000000 := by omega
  have hr3 : (esc true r).length ≤ 4000000 := by omega
  go_wp2_with fail
  refine (Decode_any HTT.out hr1).mono ?_
  rintro e W3 ⟨d, rfl, hd, b3⟩
  have B3 := bt B2 b3
  have HD := Lib.hid hd
  clear B2 b3 hd
  go_wp2_with fail
  refine (Is_any HD.out hr2 (HT.out.below B3)).mono ?_
  rintro e W4 ⟨rfl, b4⟩
  rw [dec_right HRI.out]
  have B4 := bt B3 b4
  clear B3 b4
  go_wp2_with fail
  refine (Escape_any HTT.out hr1 true).mono ?_
  rintro e W5 ⟨u, rfl, hu, b5⟩
  have B5 := bt B4 b5
  have HU := Lib.hid hu
  clear B4 b5 hu
  go_wp2_with fail
  refine (Is_any HU.out hr3 (HT.out.below B5)).mono ?_
  rintro e W6 ⟨rfl, b6⟩
  rw [esc_right true HRI.out]
  have B6 := bt B5 b6
  clear B5 b6
  go_wp2_with fail
  refine (lives02 _).mono ?_
  rintro e W7 ⟨rfl, b7⟩
  go_wp2
  go_ret
  exact ⟨rfl, bt B6 b7⟩
end Go.Proofs.YtpfaojghaggagaaDoor
