/- The walk of the reference of layer 1: Right. -/
import Derived.Test.YtninjljkdbemkaaRf2
namespace Go.Proofs.Ytninjljkdbemkaa
open Go.RowKit

theorem fix_take {L : List Int} {k : Nat} (hk : k < L.length) {x : Int} (h : (if L[k] = 10 ∧ prevOf false (L.take k) = true then [] else [if L[k] = 13 then 10 else if L[k] = 0 then 65533 else L[k]]) = [x]) :
    fix false (L.take (k + 1)) = fix false (L.take k) ++ [x] := by
  rw [List.take_succ_eq_append_getElem hk, fix_snoc, h]
theorem fix_take_skip {L : List Int} {k : Nat} (hk : k < L.length) (h1 : L[k] = 10) (h2 : prevOf false (L.take k) = true) :
    fix false (L.take (k + 1)) = fix false (L.take k) := by
  rw [List.take_succ_eq_append_getElem hk, fix_snoc, if_pos ⟨h1, h2⟩, List.append_nil]
theorem prevOf_zero (L : List Int) : prevOf false (L.take 0) = false := rfl
theorem prevOf_succ {L : List Int} {j : Nat} (hj : j < L.length) : prevOf false (L.take (j + 1)) = (L[j] == 13) := by
  rw [List.take_succ_eq_append_getElem hj, prevOf_snoc]

theorem Rd.int32 {w : World} {B n k : Nat} {A : Option Addr} {l : List Int} (h : Rd w B 1 A n (l.map (Value.int .i32))) (hk : k < n) (hkl : k < l.length) :
    ∃ a, A = some a ∧ a.block < B ∧ w.cell? (a.add k) = some (.int .i32 l[k]) := by
  obtain ⟨a, u, rfl, hb, hu, hc⟩ := h.at_ hk
  refine ⟨a, rfl, hb, ?_⟩
  rw [hc, ← hu, List.getElem?_map, List.getElem?_eq_getElem hkl]
  rfl

set_option maxHeartbeats 2000000 in
set_option maxRecDepth 100000 in
/-- strainerref01.Right -/
theorem RefRight_any {w : World} {n c : Nat} {A : Option Addr} {l : List UInt8} (hr : Rd w w.heap.size 1 A n (Lib.byteCells l)) (hnc : n ≤ c) (hc : c ≤ maxLen) (hn : n ≤ 250000) :
    Calls Try.prog 18 #[.slice A n c] w fun e w' => ∃ t, e = .returned (.string t) ∧ IsStr t (right l) ∧ Below w.heap.size w w' := by
  have hl : l.length = n := by rw [← hr.len, Lib.byteCells_length]
  have hrl := runes_length l
  have hrn : (runes l).length ≤ 250000 := by omega
  have hok := runes_ok l
  have hright : right l = enc (fix false ((runes l).take (runes l).length)) := by rw [List.take_length]; rfl
  have HRT := Lib.hid hright
  have HOK := Lib.hid hok
  have hrun := RefRunes_any hr hnc hc (by omega)
  have HRUN := Lib.hid hrun
  clear hrun hrl hl hok hright hr
  generalize hL : runes l = L at *
  clear hL
  go_enter Try.func18, Try.ntmps18
  go_wp2_with (go_at_call 29; refine HRUN.out.mono ?_; rintro e W1 ⟨A1, c1, rfl, hown1, hb1⟩)
  have hrd := Rd.of_own hown1
  have HB1 := Lib.hid hb1
  have hs1 := hb1.size
  clear hown1 HRUN hb1
  go_loopw [4, 5] (fun v i wr => ∃ (k m c' : Nat) (A' : Option Addr), v = .slice A' m c' ∧ i = .int .i64 k ∧ k ≤ L.length ∧ m ≤ k ∧ wr.ownsRow W1.heap.size 21 1 (.slice A' m c') m ((fix false (L.take k)).map (Value.int .i32)) ∧ Below W1.heap.size W1 wr) (fun _ i _ => L.length - (intOf i).toNat)
  case atStart => exact ⟨0, 0, 0, none, rfl, rfl, Nat.zero_le _, Nat.le_refl _, World.ownsRow_nil _ _ _ _, Below.refl _ _⟩
  case round =>
    obtain ⟨k, m, c', A', rfl, rfl, hk, hm, hown, hbw⟩ := hrel
    by_cases hlt : k < L.length
    · obtain ⟨a, rfl, hab, hck⟩ := (hrd.below hbw).int32 hlt hlt
      have hsz := hbw.size
      have hpush : ∀ (x : Int) (A2 : Option Addr) (c2 : Nat) (w2 : World), fix false (L.take (k + 1)) = fix false (L.take k) ++ [x] →
          w2.ownsRow W1.heap.size 21 1 (.slice A2 (m + 1) c2) (m + 1) ((fix false (L.take k)).map (Value.int .i32) ++ [.int .i32 x]) → wr.grownBy w2 (Value.slice A' m c').ownBlock →
          w2.ownsRow W1.heap.size 21 1 (.slice A2 (m + 1) c2) (m + 1) ((fix false (L.take (k + 1))).map (Value.int .i32)) ∧ Below W1.heap.size W1 w2 := by
        intro x A2 c2 w2 hfx h2 h3
        rw [hfx]
        exact ⟨by simpa using h2, hbw.grown h3 hsz (own_ge hown)⟩
      have HP := Lib.hid hpush
      have HT := Lib.hid (fun (x : Int) h => fix_take hlt (x := x) h)
      have HTS := Lib.hid (fix_take_skip hlt)
      have hbw2 := hbw
      clear hpush hbw
      have g0 : (0 : Int) ≤ (k : Int) := by omega
      have g1 : (k : Int) < (L.length : Int) := by omega
      generalize hLk : L[k] = r at *
      clear hLk
      by_cases h13 : r = 13
      · subst h13
        have HF := Lib.hid (HT.out 10 (by simp))
        go_wp2_with (at_builtin; go_must (refine wpList_push rfl _ _ _ rfl W1.heap.size rowR A' m c' _ rfl hown _ _ rfl rfl (by simp [Value.oneCell']) (by unfold maxLen; omega) (by omega) hsz ?_))
        intro A2 c2 w2 hc2 hown3 hg3
        obtain ⟨q1, q2⟩ := HP.out 10 A2 c2 w2 HF.out hown3 hg3
        clear hown3 hg3
        go_wp2
        go_roundw
        case rel => exact ⟨k + 1, m + 1, c2, A2, by go_num, by go_num, by omega, by omega, q1, q2⟩
        case measure => simp [intOf]; omega
      · by_cases h0 : r = 0
        · subst h0
          have HF := Lib.hid (HT.out 65533 (by simp))
          go_wp2_with (at_builtin; go_must (refine wpList_push rfl _ _ _ rfl W1.heap.size rowR A' m c' _ rfl hown _ _ rfl rfl (by simp [Value.oneCell']) (by unfold maxLen; omega) (by omega) hsz ?_))
          intro A2 c2 w2 hc2 hown3 hg3
          obtain ⟨q1, q2⟩ := HP.out 65533 A2 c2 w2 HF.out hown3 hg3
          clear hown3 hg3
          go_wp2
          go_roundw
          case rel => exact ⟨k + 1, m + 1, c2, A2, by go_num, by go_num, by omega, by omega, q1, q2⟩
          case measure => simp [intOf]; omega
        · by_cases h10 : r = 10
          · subst h10
            rcases k with _ | j
            · have HF := Lib.hid (HT.out 10 (by simp [prevOf]))
              rw [show a.add 0 = a from rfl] at hck
              go_wp2_with (at_builtin; go_must (refine wpList_push rfl _ _ _ rfl W1.heap.size rowR A' m c' _ rfl hown _ _ rfl rfl (by simp [Value.oneCell']) (by unfold maxLen; omega) (by omega) hsz ?_))
              intro A2 c2 w2 hc2 hown3 hg3
              obtain ⟨q1, q2⟩ := HP.out 10 A2 c2 w2 HF.out hown3 hg3
              clear hown3 hg3
              go_wp2
              go_roundw
              case rel => exact ⟨0 + 1, m + 1, c2, A2, by go_num, by go_num, by omega, by omega, q1, q2⟩
              case measure => simp [intOf]; omega
            · have hjl : j < L.length := by omega
              obtain ⟨a', ha, _, hcj⟩ := (hrd.below hbw2).int32 hjl hjl
              injection ha with ha
              subst ha
              rw [add_pos a (j + 1) (by omega)] at hck
              have HPS := Lib.hid (prevOf_succ hjl)
              generalize hLj : L[j] = p at *
              clear hLj
              by_cases hp : p = 13
              · subst hp
                have HF := Lib.hid (HTS.out rfl (by rw [HPS.out]; rfl))
                go_wp2
                go_roundw
                case rel => exact ⟨j + 1 + 1, m, c', A', rfl, by go_num, by omega, by omega, by rw [HF.out]; exact hown, hbw2⟩
                case measure => simp [intOf]; omega
              · have ep : ((p : Int) == 13) = false := by simp [hp]
                have HF := Lib.hid (HT.out 10 (by rw [HPS.out]; simp [hp]))
                go_wp2_with (at_builtin; go_must (refine wpList_push rfl _ _ _ rfl W1.heap.size rowR A' m c' _ rfl hown _ _ rfl rfl (by simp [Value.oneCell']) (by unfold maxLen; omega) (by omega) hsz ?_))
                intro A2 c2 w2 hc2 hown3 hg3
                obtain ⟨q1, q2⟩ := HP.out 10 A2 c2 w2 HF.out hown3 hg3
                clear hown3 hg3
                go_wp2
                go_roundw
                case rel => exact ⟨j + 1 + 1, m + 1, c2, A2, by go_num, by go_num, by omega, by omega, q1, q2⟩
                case measure => simp [intOf]; omega
          · have e13 : ((r : Int) == 13) = false := by simp [h13]
            have e0 : ((r : Int) == 0) = false := by simp [h0]
            have e10 : ((r : Int) == 10) = false := by simp [h10]
            have HF := Lib.hid (HT.out r (by simp [h13, h0, h10]))
            go_wp2_with (at_builtin; go_must (refine wpList_push rfl _ _ _ rfl W1.heap.size rowR A' m c' _ rfl hown _ _ rfl rfl (by simp [Value.oneCell']) (by unfold maxLen; omega) (by omega) hsz ?_))
            intro A2 c2 w2 hc2 hown3 hg3
            obtain ⟨q1, q2⟩ := HP.out r A2 c2 w2 HF.out hown3 hg3
            clear hown3 hg3
            go_wp2
            go_roundw
            case rel => exact ⟨k + 1, m + 1, c2, A2, by go_num, by go_num, by omega, by omega, q1, q2⟩
            case measure => simp [intOf]; omega
    · obtain rfl : k = L.length := by omega
      have hsz := hbw.size
      have hlen := hown.1
      rw [List.length_map, Nat.mul_one] at hlen
      have hrt := RefText_any (c := c') ((Rd.of_own hown)) (by omega) (by
        intro r hr
        rw [List.take_length] at hr
        have := (fix_ok false L HOK.out r hr).1
        unfold okRune at this
        omega)
      have HX := Lib.hid hrt
      clear hlen hrt
      go_wp2_with (go_at_call 30; refine HX.out.mono ?_; rintro e W2 ⟨t, rfl, ht, b2⟩)
      go_ret
      exact ⟨t, rfl, HRT.out ▸ ht, HB1.out.trans ((hbw.trans (b2.mono hsz)).mono hs1)⟩
end Go.Proofs.Ytninjljkdbemkaa
