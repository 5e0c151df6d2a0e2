/- strainerref05.Same: tokens that are the same. -/
import Derived.Test.YtninjljkdbemkaaTl
import Derived.Laws.StructEq
import Derived.Deep.DeepCutAuto
namespace Go.Proofs.Ytninjljkdbemkaa
open Go.RowKit

set_option maxRecDepth 100000 in
theorem atr_eq (s t : ByteArray) (w : World) : Sem.run Try.prog (Op.equal 40 (.agg #[.string s, .string t]) (.agg #[.string s, .string t])) w = .ok true w := by
  have hs := fun d (x : ByteArray) => run_equalIn_string (P := Try.prog) w d 9 x x Try.underlying9
  have hst : Try.prog.stoodInHeld 40 = false := by kernel_rfl
  show Sem.run Try.prog (Op.equalIn (9998 + 1 + 1) 40 (.agg #[.string s, .string t]) (.agg #[.string s, .string t])) w = .ok true w
  rw [Op.equalIn]
  have p0 : ∀ w, Sem.run Try.prog (part 9 #[.string s, .string t] 0) w = .ok (.string s) w := fun w => by kernel_rfl
  have p1 : ∀ w, Sem.run Try.prog (part 9 #[.string s, .string t] 1) w = .ok (.string t) w := fun w => by kernel_rfl
  have h1 := hs 9998 s
  have h2 := hs 9998 t
  simp [Sem.run_bind, run_underlying Try.underlying40, Result.andThen, hst, p0, p1, h1, h2]
theorem atr_neq (s t : ByteArray) (w : World) : Sem.run Try.prog (binOp BinOp.neq 40 (.agg #[.string s, .string t]) (.agg #[.string s, .string t])) w = .ok (.bool false) w := by
  simp [binOp, atr_eq, Result.andThen]

set_option maxHeartbeats 1000000 in
set_option maxRecDepth 100000 in
/-- strainerref05.Same of the same tokens -/
theorem TSame_yes {w : World} {A B : Option Addr} {c d : Nat} {l : List Tk} (hA : Toks w w.heap.size A l.length l) (hB : Toks w w.heap.size B l.length l) (hb : l.length ≤ 100000000) (hat : ∀ t ∈ l, t.attrs.length ≤ 100000000) :
    Calls Try.prog 11 #[.slice A l.length c, .slice B l.length d] w fun e w' => e = .returned (.bool true) ∧ Below w.heap.size w w' := by
  go_enter Try.func11, Try.ntmps11
  go_wp2
  go_loopw [5] (fun iv wr => ∃ k : Nat, iv = .int .i64 k ∧ k ≤ l.length ∧ Below w.heap.size w wr) (fun iv _ => l.length - (intOf iv).toNat)
  case atStart => exact ⟨0, rfl, Nat.zero_le _, Below.refl _ _⟩
  case round =>
    obtain ⟨k, rfl, hk, hw⟩ := hrel
    by_cases hlt : k < l.length
    · obtain ⟨a, A1, c1, rfl, hab, k0, n0, ats0, t0, hc0, hat0⟩ := (hA.below hw).at_ hlt hlt
      obtain ⟨b, A2, c2, rfl, hbb, k1, n1, ats1, t1, hc1, hat1⟩ := (hB.below hw).at_ hlt hlt
      have hal := hat l[k] (List.getElem_mem _)
      generalize l[k] = tk at *
      have HA := Lib.hid hA
      have HB := Lib.hid hB
      clear hA hB
      obtain ⟨wo, rfl⟩ : ∃ wo : World, wo = wr := ⟨_, rfl⟩
      go_upto_region 6 with fail
      go_cut [69] (fun s69 wx => s69 = .bool false ∧ Below wo.heap.size wo wx)
      case first =>
        go_region
        all_goals
          go_wp2_with fail
          go_meet
          exact ⟨rfl, below_drewN (Below.refl _ _) _⟩
      case rest =>
        obtain ⟨rfl, b2⟩ := hcut
        have g0 := fun w' (h : Below wo.heap.size wo w') => (h.cell (p := ⟨(a.add (k * 4)).block, (a.add (k * 4)).off + 2, none⟩) (by simp only [block_add]; exact Nat.lt_of_lt_of_le hab hw.size)).trans ats0
        have g1 := fun w' (h : Below wo.heap.size wo w') => (h.cell (p := ⟨(b.add (k * 4)).block, (b.add (k * 4)).off + 2, none⟩) (by simp only [block_add]; exact Nat.lt_of_lt_of_le hbb hw.size)).trans ats1
        clear ats0 ats1 k0 k1 n0 n1 t0 t1
        go_wp2
        go_loopw [6] (fun jv wy => ∃ j : Nat, jv = .int .i64 j ∧ j ≤ tk.attrs.length ∧ Below wo.heap.size wo wy) (fun jv _ => tk.attrs.length - (intOf jv).toNat)
        case atStart => exact ⟨0, rfl, Nat.zero_le _, b2⟩
        case round =>
          obtain ⟨j, rfl, hj, hwy⟩ := hrel
          have e0 := g0 _ hwy
          have e1 := g1 _ hwy
          by_cases hjl : j < tk.attrs.length
          · obtain ⟨ad, rfl, had, p0, p1⟩ := hat0.cells hjl hjl
            obtain ⟨bd, rfl, hbd, p2, p3⟩ := hat1.cells hjl hjl
            have p0' := (hwy.cell (p := ad.add (j * 2)) (Nat.lt_of_lt_of_le had hw.size)).trans p0
            have p1' := (hwy.cell (p := ⟨(ad.add (j * 2)).block, (ad.add (j * 2)).off + 1, none⟩) (Nat.lt_of_lt_of_le had hw.size)).trans p1
            have p2' := (hwy.cell (p := bd.add (j * 2)) (Nat.lt_of_lt_of_le hbd hw.size)).trans p2
            have p3' := (hwy.cell (p := ⟨(bd.add (j * 2)).block, (bd.add (j * 2)).off + 1, none⟩) (Nat.lt_of_lt_of_le hbd hw.size)).trans p3
            have hne := atr_neq
            clear p0 p1 p2 p3 g0 g1 hat0 hat1
            generalize tk.attrs[j] = at_ at *
            go_upto_region 11 with fail
            go_cut [96] (fun s96 wx => s96 = .bool false ∧ Below wr.heap.size wr wx)
            case first =>
              go_region
              all_goals
                go_wp2_with fail
                go_meet
                exact ⟨rfl, below_drewN (Below.refl _ _) _⟩
            case rest =>
              obtain ⟨rfl, b3⟩ := hcut
              go_wp2
              go_roundw
              case rel => exact ⟨j + 1, by go_num, by omega, bt hwy b3⟩
              case measure => simp [intOf]; omega
          · go_wp2
            go_roundw
            case rel => exact ⟨k + 1, by go_num, by omega, hw.trans (hwy.mono hw.size)⟩
            case measure => simp [intOf]; omega
    · go_wp2
      go_ret
      exact ⟨rfl, hw⟩
end Go.Proofs.Ytninjljkdbemkaa
