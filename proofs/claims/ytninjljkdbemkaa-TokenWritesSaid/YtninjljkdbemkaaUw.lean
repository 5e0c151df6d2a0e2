/- The walks of the package utf and of its reference: each function returns what the plain laws say. -/
import Derived.Test.YtninjljkdbemkaaProg
import Derived.Test.YtninjljkdbemkaaMem
import Derived.Test.YtninjljkdbemkaaUtf
import Derived.KernelRfl
namespace Go.Proofs.Ytninjljkdbemkaa
open Go.RowKit

theorem infoB : (Try.prog.info? 5).map (fun i => (i.zero, i.size, i.bytes)) = some (some (.int .u8 0), 1, 1) := by kernel_rfl
theorem rowB : Row Try.prog 36 5 1 1 := by
  obtain ⟨i, hi, hz, h1, h2⟩ := info_parts infoB
  exact ⟨Try.underlying36, ⟨i, _, hi, hz, h1, h2, rfl⟩, by decide⟩
theorem infoR : (Try.prog.info? 21).map (fun i => (i.zero, i.size, i.bytes)) = some (some (.int .i32 0), 1, 4) := by kernel_rfl
theorem rowR : Row Try.prog 50 21 1 4 := by
  obtain ⟨i, hi, hz, h1, h2⟩ := info_parts infoR
  exact ⟨Try.underlying50, ⟨i, _, hi, hz, h1, h2, rfl⟩, by decide⟩

theorem byteCells_take (l : List UInt8) (k : Nat) : (Lib.byteCells l).take k = Lib.byteCells (l.take k) := by simp [Lib.byteCells]
theorem byteCells_drop (l : List UInt8) (k : Nat) : (Lib.byteCells l).drop k = Lib.byteCells (l.drop k) := by simp [Lib.byteCells]

theorem decode_str {s : ByteArray} {l : List UInt8} (h : IsStr s l) (pos : Nat) : Utf8.decode s pos = Lib.decodeL (l.drop pos) := by
  rw [← Lib.decodeL_drop, h.out]

end Go.Proofs.Ytninjljkdbemkaa
