/- The walks of the package refs: character, digit. -/
import Derived.Test.YtninjljkdbemkaaRw1
namespace Go.Proofs.Ytninjljkdbemkaa
open Go.RowKit

set_option maxHeartbeats 1000000 in
/-- refs.character -/
theorem character_any (w : World) (n : Int) (h0 : 0 ≤ n) (hb : n ≤ 1000000000) :
    Calls Try.prog 75 #[.int .i64 n] w fun e w' => e = .returned (.int .i32 (charOf n)) ∧ Below w.heap.size w w' := by
  by_cases e0 : n = 0
  · subst e0
    go_enter Try.func75, Try.ntmps75
    go_wp2
    go_ret
    exact ⟨rfl, Below.refl _ _⟩
  · have b0 : (n == 0) = false := by rw [beq_eq_false_iff_ne]; exact e0
    by_cases e1 : n = 13
    · subst e1
      go_enter Try.func75, Try.ntmps75
      go_wp2
      go_ret
      exact ⟨rfl, Below.refl _ _⟩
    · have b1 : (n == 13) = false := by rw [beq_eq_false_iff_ne]; exact e1
      by_cases e2 : 55296 ≤ n
      · by_cases e3 : n ≤ 57343
        · have H := Lib.hid (show charOf n = 65533 by unfold charOf; rw [if_pos (by omega)])
          clear e0 e1
          go_enter Try.func75, Try.ntmps75
          go_wp2
          go_ret
          exact ⟨by rw [H.out]; rfl, Below.refl _ _⟩
        · by_cases e4 : n > 1114111
          · have H := Lib.hid (show charOf n = 65533 by unfold charOf; rw [if_pos (by omega)])
            clear e0 e1
            go_enter Try.func75, Try.ntmps75
            go_wp2
            go_ret
            exact ⟨by rw [H.out]; rfl, Below.refl _ _⟩
          · have H := Lib.hid (show charOf n = n by unfold charOf; rw [if_neg (by omega)])
            clear e0 e1
            go_enter Try.func75, Try.ntmps75
            go_wp2
            go_ret
            exact ⟨by rw [H.out]; rfl, Below.refl _ _⟩
      · have H := Lib.hid (show charOf n = n by unfold charOf; rw [if_neg (by omega)])
        have e4 : ¬ n > 1114111 := by omega
        clear e0 e1
        go_enter Try.func75, Try.ntmps75
        go_wp2
        go_ret
        exact ⟨by rw [H.out]; rfl, Below.refl _ _⟩

set_option maxHeartbeats 2000000 in
/-- refs.digit -/
theorem digit_any (w : World) (c base : Int) (h0 : 0 ≤ c) (hb : c ≤ 1114111) (hbase : base = 10 ∨ base = 16) :
    Calls Try.prog 76 #[.int .i32 c, .int .i64 base] w fun e w' => e = .returned (.int .i64 (digitOf c base)) ∧ Below w.heap.size w w' := by
  by_cases a0 : 48 ≤ c
  all_goals by_cases a1 : c ≤ 57
  all_goals by_cases a2 : 97 ≤ c
  all_goals by_cases a3 : c ≤ 102
  all_goals by_cases a4 : 65 ≤ c
  all_goals by_cases a5 : c ≤ 70
  all_goals try (exfalso; omega)
  all_goals rcases hbase with rfl | rfl
  all_goals (generalize hd : digitOf c _ = d; unfold digitOf at hd; simp only [*, true_and, and_true, false_and, and_false, if_true, if_false, not_true, not_false_iff] at hd)
  all_goals (go_enter Try.func76, Try.ntmps76; have HD := Lib.hid hd; clear hd; go_wp2; go_ret; exact ⟨by rw [← HD.out]; first | rfl | (congr 2; omega), Below.refl _ _⟩)
end Go.Proofs.Ytninjljkdbemkaa
