/- Words on strings, further: a byte, a character, a part, both behind each other. -/
import Derived.Test.YtbipdnnalhdoaaaUtf
import Derived.Test.YtbipdnnalhdoaaaMem
namespace Go.Proofs.Ytbipdnnalhdoaaa

theorem s_byte {s : ByteArray} {l : List UInt8} (h : IsStr s l) (k : Nat) (hk : k < s.size) (hk' : k < l.length) : s[k] = l[k] := by
  have := h.out
  subst this
  rfl
theorem s_decode {s : ByteArray} {l : List UInt8} (h : IsStr s l) (pos : Nat) : Utf8.decode s pos = Lib.decodeL (l.drop pos) := by
  rw [← Lib.decodeL_drop, h.out]
theorem s_drop {t : ByteArray} {l : List UInt8} (ht : IsStr t l) (k : Nat) : IsStr (t.extract k t.size) (l.drop k) := by
  rw [ht.to]
  unfold IsStr
  simp [ByteArray.data_extract, ByteArray.size]
  exact List.take_of_length_le (by simp)
theorem s_take {t : ByteArray} {l : List UInt8} (ht : IsStr t l) (k : Nat) : IsStr (t.extract 0 k) (l.take k) := by
  rw [ht.to]
  unfold IsStr
  simp [ByteArray.data_extract]
theorem s_part {t : ByteArray} {l : List UInt8} (ht : IsStr t l) (i k : Nat) : IsStr (t.extract i k) ((l.drop i).take (k - i)) := by
  rw [ht.to]
  unfold IsStr
  simp [ByteArray.data_extract, List.take_drop]
  try omega
theorem s_append {t u : ByteArray} {l m : List UInt8} (ht : IsStr t l) (hu : IsStr u m) : IsStr (t ++ u) (l ++ m) := by
  rw [ht.to, hu.to]
  unfold IsStr
  simp
end Go.Proofs.Ytbipdnnalhdoaaa
