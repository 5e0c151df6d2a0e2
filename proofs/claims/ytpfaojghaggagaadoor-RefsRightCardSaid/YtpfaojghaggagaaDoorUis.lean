/- The walk of utf.Is (it leans on two tables of unicode/utf8, as the program's text lays them). -/
import Derived.Test.YtpfaojghaggagaaDoorUw5
namespace Go.Proofs.YtpfaojghaggagaaDoor
open Go.RowKit

/-- the two tables of unicode/utf8 -/
def Tabs (w : World) : Prop := Lib.Utf8Tabs (Tryd.lays196_ren.g 3) (Tryd.lays196_ren.g 4) w

theorem isRight_invalid {l : List UInt8} (h : Lib.validD l = false) : isRight l = false := by simp [isRight, h]
theorem isRight_yes {l : List UInt8} (h : Lib.validD l = true) (h2 : ∀ r ∈ runes l, r ≠ 0 ∧ r ≠ 13) : isRight l = true := (isRight_iff l).2 ⟨h, h2⟩
theorem isRight_no {l : List UInt8} {r : Int} (hr : r ∈ runes l) (h : r = 0 ∨ r = 13) : isRight l = false := by
  cases h1 : isRight l with
  | false => rfl
  | true => have := ((isRight_iff l).1 h1).2 r hr; omega

set_option maxHeartbeats 400000 in
/-- utf.Is: is a text right? -/
theorem Is_any {w : World} {s : ByteArray} {l : List UInt8} (hs : IsStr s l) (hn : l.length ≤ 4000000) (hT : Tabs w) :
    Calls Tryd.prog 13 #[.string s] w fun e w' => e = .returned (.bool (isRight l)) ∧ Below w.heap.size w w' := by
  have hss := hs.size
  have cV := Tryd.utf8_ValidString s w (by omega) hT
  rw [hs.out] at cV
  have hsb : s.size ≤ 4000000 := by omega
  cases hv : Lib.validD l with
  | false =>
    rw [hv] at cV
    have HR := Lib.hid (isRight_invalid hv)
    have CV := Lib.hid cV
    clear cV hv hss
    go_enter Tryd.func13, Tryd.ntmps13
    go_wp2_with (go_at_call 29; refine CV.out.mono ?_; rintro e W1 ⟨rfl, b1⟩)
    go_ret
    exact ⟨ret_bool HR.out.symm, b1⟩
  | true =>
    rw [hv] at cV
    have HV := Lib.hid hv
    have CV := Lib.hid cV
    have HSS := Lib.hid hss
    clear cV hv hss
    go_enter Tryd.func13, Tryd.ntmps13
    go_wp2_with (go_at_call 29; refine CV.out.mono ?_; rintro e W1 ⟨rfl, b1⟩)
    have hW1 := b1.size
    go_loopw [] (fun wr => ∃ (pos : Nat) (acc : List Int), wr.heap[W1.heap.size]? = some (.stringIter s pos) ∧ Below w.heap.size w wr ∧ acc ++ runes (l.drop pos) = runes l ∧ (∀ r ∈ acc, r ≠ 0 ∧ r ≠ 13)) (fun wr => s.size - wr.iterPos W1.heap.size)
    case atStart =>
      refine ⟨0, [], ?_, b1.alloc hW1 _, rfl, by simp⟩
      simpa using World.iter_heap W1 s 0
    case round =>
      obtain ⟨pos, acc, hit, hbw, hacc, hok⟩ := hrel
      have hsz : W1.heap.size < wr.heap.size := (Array.getElem?_eq_some_iff.1 hit).1
      have hss := HSS.out
      by_cases hp : pos < s.size
      · have hnx : ∀ ty, (Instr.next (.pointer (some ⟨W1.heap.size, 0, none⟩)) true ty).run Tryd.prog wr = _ := fun ty => Lib.run_next_any_at wr W1.heap.size s pos ty hit hp
        have hwd := Lib.width_pos s pos
        have hd1 := decode_le s pos
        have hne : l.drop pos ≠ [] := by intro e; have := congrArg List.length e; simp at this; omega
        have hst := runes_step _ hne
        rw [← decode_str hs, List.drop_drop] at hst
        rw [hst] at hacc
        have hit2 := Lib.iterAt_heap wr W1.heap.size s pos (pos + (Utf8.decode s pos).2) hit
        have hbw2 := Lib.below_iterAt hbw (k := W1.heap.size) (by omega) s (pos + (Utf8.decode s pos).2)
        have HACC := Lib.hid hacc
        have hmeas : wr.iterPos W1.heap.size = pos := by simp only [World.iterPos, hit]
        have HM := Lib.hid hmeas
        have hin : ((Utf8.decode s pos).1 : Int) ∈ runes l := by rw [← hacc]; simp
        have HIN := Lib.hid hin
        clear hacc hst hss hne hmeas hbw hin
        generalize hW2 : wr.iterAt W1.heap.size s (pos + (Utf8.decode s pos).2) = W2 at *
        have HW2 := Lib.hid hW2
        clear hW2
        generalize (Utf8.decode s pos).1 = r at *
        generalize (Utf8.decode s pos).2 = wd at *
        by_cases h0 : r = 0
        · have HR := Lib.hid (isRight_no HIN.out (Or.inl (by omega)))
          have e0 : ((r : Int) == 0) = true := by simp; omega
          clear h0
          go_wp2
          go_ret
          exact ⟨ret_bool HR.out.symm, hbw2⟩
        · have e0 : ((r : Int) == 0) = false := by simp; omega
          by_cases h13 : r = 13
          · have HR := Lib.hid (isRight_no HIN.out (Or.inr (by omega)))
            have e13 : ((r : Int) == 13) = true := by simp; omega
            clear h13
            go_wp2
            go_ret
            exact ⟨ret_bool HR.out.symm, hbw2⟩
          · have e13 : ((r : Int) == 13) = false := by simp; omega
            go_wp2
            go_roundw
            case rel =>
              refine ⟨pos + wd, acc ++ [(r : Int)], hit2, hbw2, by rw [← HACC.out]; simp, ?_⟩
              intro x hx
              rcases List.mem_append.1 hx with hx | hx
              · exact hok x hx
              · rw [List.mem_singleton] at hx
                subst hx
                omega
            case measure =>
              rw [HM.out]
              simp only [World.iterPos, hit2]
              omega
      · have hnx : ∀ ty, (Instr.next (.pointer (some ⟨W1.heap.size, 0, none⟩)) true ty).run Tryd.prog wr = _ := fun ty => Lib.run_next_end_at wr W1.heap.size s pos ty hit hp
        have he : acc = runes l := by
          rw [← hacc, List.drop_of_length_le (by omega), runes_nil, List.append_nil]
        subst he
        have HR := Lib.hid (isRight_yes HV.out hok)
        clear hss hacc
        go_wp2
        go_ret
        exact ⟨ret_bool HR.out.symm, hbw⟩
end Go.Proofs.YtpfaojghaggagaaDoor
