/- The walks of the package utf and of its reference: each function returns what the plain laws say. -/
import Derived.Test.YtpfaojghaggagaaDoorProg
import Derived.Test.YtpfaojghaggagaaDoorMem
import Derived.Test.YtpfaojghaggagaaDoorUtf
import Derived.KernelRfl
namespace Go.Proofs.YtpfaojghaggagaaDoor
open Go.RowKit

theorem infoB : (Tryd.prog.info? 5).map (fun i => (i.zero, i.size, i.bytes)) = some (some (.int .u8 0), 1, 1) := by kernel_rfl
theorem rowB : Row Tryd.prog 22 5 1 1 := by
  obtain ⟨i, hi, hz, h1, h2⟩ := info_parts infoB
  exact ⟨Tryd.underlying22, ⟨i, _, hi, hz, h1, h2, rfl⟩, by decide⟩
theorem infoR : (Tryd.prog.info? 21).map (fun i => (i.zero, i.size, i.bytes)) = some (some (.int .i32 0), 1, 4) := by kernel_rfl
theorem rowR : Row Tryd.prog 28 21 1 4 := by
  obtain ⟨i, hi, hz, h1, h2⟩ := info_parts infoR
  exact ⟨Tryd.underlying28, ⟨i, _, hi, hz, h1, h2, rfl⟩, by decide⟩

theorem byteCells_take (l : List UInt8) (k : Nat) : (Lib.byteCells l).take k = Lib.byteCells (l.take k) := by simp [Lib.byteCells]
theorem byteCells_drop (l : List UInt8) (k : Nat) : (Lib.byteCells l).drop k = Lib.byteCells (l.drop k) := by simp [Lib.byteCells]

/-- few: the first 200 bytes -/
theorem few_any {w : World} {B n c : Nat} {A : Option Addr} {l : List UInt8} (hr : Rd w B 1 A n (Lib.byteCells l)) (hnc : n ≤ c) (hc : c ≤ maxLen) :
    Calls Tryd.prog 10 #[.slice A n c] w fun e w' => ∃ A' n' c', e = .returned (.slice A' n' c') ∧ w = w' ∧ Rd w B 1 A' n' (Lib.byteCells (l.take 200)) ∧ n' ≤ 200 ∧ n' ≤ c' ∧ c' ≤ maxLen := by
  unfold maxLen at hc
  by_cases hn : n ≤ 200
  · have hx : Rd w B 1 A n (Lib.byteCells (l.take 200)) := by
      have hl := hr.len
      rw [Lib.byteCells_length] at hl
      rw [List.take_of_length_le (by omega)]; exact hr
    go_enter Tryd.func10, Tryd.ntmps10
    go_wp2
    go_ret
    exact ⟨_, _, _, rfl, rfl, hx, hn, hnc, by unfold maxLen; exact hc⟩
  · have hx : Rd w B 1 A 200 (Lib.byteCells (l.take 200)) := by
      have := hr.take (k := 200) (by omega)
      rwa [Nat.mul_one, byteCells_take] at this
    obtain ⟨a, rfl, _⟩ := hr.2 (by
      intro e
      have := hr.len
      rw [e] at this
      simp at this
      omega)
    go_enter Tryd.func10, Tryd.ntmps10
    go_wp2
    go_ret
    exact ⟨_, _, _, rfl, rfl, hx, Nat.le_refl _, by omega, by unfold maxLen; exact hc⟩

theorem decode_str {s : ByteArray} {l : List UInt8} (h : IsStr s l) (pos : Nat) : Utf8.decode s pos = Lib.decodeL (l.drop pos) := by
  rw [← Lib.decodeL_drop, h.out]

/-- utf.Runes: bytes' characters -/
theorem Runes_any {w : World} {n c : Nat} {A : Option Addr} {l : List UInt8} (hr : Rd w w.heap.size 1 A n (Lib.byteCells l)) (hn : n ≤ 1000000) :
    Calls Tryd.prog 18 #[.slice A n c] w fun e w' => ∃ A' c', e = .returned (.slice A' (runes l).length c') ∧
      w'.ownsRow w.heap.size 21 1 (.slice A' (runes l).length c') (runes l).length ((runes l).map (Value.int .i32)) ∧ Below w.heap.size w w' := by
  have hl : l.length = n := by rw [← hr.len, Lib.byteCells_length]
  obtain ⟨s, hs⟩ : ∃ s, IsStr s l := ⟨_, IsStr.mk l⟩
  have hss : s.size = n := by rw [hs.size, hl]
  have hcv := fun c => run_bytes_str (P := Tryd.prog) hr 22 5 9 c Tryd.underlying22 Tryd.underlying5 Tryd.underlying9
  rw [← hs.to] at hcv
  have HS := Lib.hid hs
  have HSS := Lib.hid hss
  have hsb : s.size ≤ 1000000 := by omega
  clear hs hss
  go_enter Tryd.func18, Tryd.ntmps18
  go_wp2
  clear hcv
  have hs := HS.out
  have hss := HSS.out
  go_loopw [3] (fun v wr => ∃ (pos : Nat) (acc : List Int) (A' : Option Addr) (c' : Nat), v = .slice A' acc.length c' ∧ wr.ownsRow w.heap.size 21 1 (.slice A' acc.length c') acc.length (acc.map (Value.int .i32)) ∧
      wr.heap[w.heap.size]? = some (.stringIter s pos) ∧ Below w.heap.size w wr ∧ acc ++ runes (l.drop pos) = runes l ∧ acc.length ≤ pos)
    (fun _ wr => s.size - wr.iterPos w.heap.size)
  case atStart =>
    refine ⟨0, [], none, 0, rfl, World.ownsRow_nil _ _ _ _, ?_, (Below.refl _ w).alloc (Nat.le_refl _) _, rfl, Nat.le_refl _⟩
    simpa using World.iter_heap w s 0
  case round =>
    obtain ⟨pos, acc, A', c', rfl, hown, hit, hbw, hacc, hal⟩ := hrel
    have hsz : w.heap.size < wr.heap.size := (Array.getElem?_eq_some_iff.1 hit).1
    by_cases hp : pos < s.size
    · have hnx : ∀ ty, (Instr.next (.pointer (some ⟨w.heap.size, 0, none⟩)) true ty).run Tryd.prog wr = _ := fun ty => Lib.run_next_any_at wr w.heap.size s pos ty hit hp
      have hwd := Lib.width_pos s pos
      have hd1 := decode_le s pos
      have hne : l.drop pos ≠ [] := by intro e; have := congrArg List.length e; simp at this; omega
      have hst := runes_step _ hne
      rw [← decode_str hs, List.drop_drop] at hst
      have hown2 := own_iterAt (pos' := pos + (Utf8.decode s pos).2) hown hit
      have hit2 := Lib.iterAt_heap wr w.heap.size s pos (pos + (Utf8.decode s pos).2) hit
      have hbw2 := Lib.below_iterAt hbw (k := w.heap.size) (Nat.le_refl _) s (pos + (Utf8.decode s pos).2)
      have hsz2 : w.heap.size ≤ (wr.iterAt w.heap.size s (pos + (Utf8.decode s pos).2)).heap.size := by rw [Lib.iterAt_size]; omega
      have HACC := Lib.hid hacc
      have HST := Lib.hid hst
      clear hacc hst hs hss hl hne
      go_wp2_with (at_builtin; go_must (refine wpList_push rfl _ _ _ rfl w.heap.size rowR A' acc.length c' _ rfl hown2 _ _ rfl rfl (by simp [Value.oneCell']) (by unfold maxLen; omega) (by omega) hsz2 ?_))
      intro A2 c2 w2 hc2 hown3 hg3
      have hit3 := iter_grown hown2 hg3 hit2
      have hbw3 := hbw2.grown hg3 hsz2 (own_ge hown2)
      clear hnx hown hown2 hit2
      go_wp2
      go_roundw
      case rel =>
        refine ⟨pos + (Utf8.decode s pos).2, acc ++ [((Utf8.decode s pos).1 : Int)], A2, c2, by simp, by simpa using hown3, hit3, hbw3, ?_, by simp; omega⟩
        rw [← HACC.out, HST.out]
        simp
      case measure =>
        simp only [World.iterPos, hit3, hit]
        omega
    · have hnx : ∀ ty, (Instr.next (.pointer (some ⟨w.heap.size, 0, none⟩)) true ty).run Tryd.prog wr = _ := fun ty => Lib.run_next_end_at wr w.heap.size s pos ty hit hp
      have he : acc = runes l := by
        rw [← hacc, List.drop_of_length_le (by omega), runes_nil, List.append_nil]
      clear hss hl
      go_wp2
      go_ret
      subst he
      exact ⟨A', c', rfl, hown, hbw⟩
end Go.Proofs.YtpfaojghaggagaaDoor
