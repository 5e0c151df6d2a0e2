/- The walks of the packages strainerref02 (Escape) and strainerlaw02 (few, lives). -/
import Derived.Test.YtpfaojghaggagaaDoorRw5
import Derived.Test.YtpfaojghaggagaaDoorRw6
namespace Go.Proofs.YtpfaojghaggagaaDoor
open Go.RowKit


/-- strainerlaw02.few: the first 200 bytes -/
theorem few2_any {w : World} {s : ByteArray} {l : List UInt8} (hs : IsStr s l) (hl : s.size ≤ maxLen) :
    Calls Tryd.prog 22 #[.string s] w fun e w' => ∃ t, e = .returned (.string t) ∧ IsStr t (l.take 200) ∧ Below w.heap.size w w' := by
  have hsz := hs.size
  unfold maxLen at hl
  by_cases h : 200 < s.size
  · have ht := s_take hs 200
    have HT := Lib.hid ht
    clear ht hsz hs
    go_enter Tryd.func22, Tryd.ntmps22
    go_wp2
    go_ret
    exact ⟨_, rfl, HT.out, Below.refl _ _⟩
  · have HT := Lib.hid (show IsStr s (l.take 200) by rw [List.take_of_length_le (by omega)]; exact hs)
    clear hsz hs
    go_enter Tryd.func22, Tryd.ntmps22
    go_wp2
    go_ret
    exact ⟨_, rfl, HT.out, Below.refl _ _⟩

theorem dec_lives : dec [97, 38, 108, 116, 59, 38, 35, 120, 50, 48, 65, 67, 59, 38, 110, 111, 59] = [97, 60, 226, 130, 172, 38, 110, 111, 59] := by decide
theorem esc_lives : esc false [60] = [38, 108, 116, 59] := by decide

/-- strainerlaw02.lives -/
theorem lives02 (w : World) : Calls Tryd.prog 25 #[] w fun e w' => e = .returned (.bool true) ∧ Below w.heap.size w w' := by
  have DL := Lib.hid dec_lives
  have EL := Lib.hid esc_lives
  go_enter Tryd.func25, Tryd.ntmps25
  go_wp2_with fail
  refine (Decode_any (s := ⟨#[97, 38, 108, 116, 59, 38, 35, 120, 50, 48, 65, 67, 59, 38, 110, 111, 59]⟩) (l := [97, 38, 108, 116, 59, 38, 35, 120, 50, 48, 65, 67, 59, 38, 110, 111, 59]) rfl (by decide)).mono ?_
  rintro e W1 ⟨t, rfl, ht, b1⟩
  rw [DL.out] at ht
  obtain rfl := ht.to
  clear ht
  go_wp2_with fail
  refine (Escape_any (s := ⟨#[60]⟩) (l := [60]) rfl (by decide) false).mono ?_
  rintro e W2 ⟨t, rfl, ht, b2⟩
  rw [EL.out] at ht
  obtain rfl := ht.to
  clear ht
  go_wp2
  go_ret
  exact ⟨rfl, bt b1 b2⟩
end Go.Proofs.YtpfaojghaggagaaDoor
