/- The walks of the package refs: One. -/
import Derived.Test.YtninjljkdbemkaaRw3
import Derived.Test.YtninjljkdbemkaaShelf
namespace Go.Proofs.Ytninjljkdbemkaa
open Go.RowKit

theorem hasPrefix_is (l p : List UInt8) : Lib.hasPrefix l p = p.isPrefixOf l := rfl
theorem HasPrefix_any {w : World} {s : ByteArray} {l : List UInt8} (hs : IsStr s l) (p : ByteArray) {m : List UInt8} (hp : IsStr p m) :
    Calls Try.prog 55 #[.string s, .string p] w fun e w' => e = .returned (.bool (m.isPrefixOf l)) ∧ w' = w := by
  have := Try.strings_HasPrefix s p w
  rw [hs.out, hp.out, hasPrefix_is] at this
  exact this
theorem pre_len {p l : List UInt8} (h : p.isPrefixOf l = true) : p.length ≤ l.length := by
  rw [List.isPrefixOf_iff_prefix] at h
  exact h.length_le

set_option maxHeartbeats 1000000 in
set_option maxRecDepth 100000 in
/-- refs.One -/
theorem RefsOne_any {w : World} {s : ByteArray} {l : List UInt8} (hs : IsStr s l) (hl : l.length ≤ 1000000) :
    Calls Try.prog 44 #[.string s] w fun e w' => PairIs e (one l) ∧ Below w.heap.size w w' := by
  have hsz := hs.size
  have hsb : s.size ≤ 1000000 := by omega
  have HS := Lib.hid hs
  have HSZ := Lib.hid hsz
  clear hs hsz
  cases h1 : [38, 35, 120].isPrefixOf l with
  | true =>
    have HO := Lib.hid (show one l = numRef l 3 16 6 by unfold one; rw [if_pos (.inl h1)])
    have hlen := pre_len h1
    go_enter Try.func44, Try.ntmps44
    go_wp2_with fail
    refine (HasPrefix_any HS.out ⟨#[38, 35, 120]⟩ (m := [38, 35, 120]) rfl).mono ?_
    rintro e W1 ⟨rfl, rfl⟩
    rw [h1]
    clear h1
    go_wp2_with fail
    refine (number_any HS.out hl 3 6 hlen 16 (.inr rfl) (by omega)).mono ?_
    rintro e W2 ⟨he, b2⟩
    rw [← HO.out] at he
    obtain rfl := he.out
    go_wp2
    go_ret2
    exact ⟨rfl, b2⟩
  | false =>
  cases h2 : [38, 35, 88].isPrefixOf l with
  | true =>
    have HO := Lib.hid (show one l = numRef l 3 16 6 by unfold one; rw [if_pos (.inr h2)])
    have hlen := pre_len h2
    go_enter Try.func44, Try.ntmps44
    go_wp2_with fail
    refine (HasPrefix_any HS.out ⟨#[38, 35, 120]⟩ (m := [38, 35, 120]) rfl).mono ?_
    rintro e W1 ⟨rfl, rfl⟩
    rw [h1]
    clear h1
    go_wp2_with fail
    refine (HasPrefix_any HS.out ⟨#[38, 35, 88]⟩ (m := [38, 35, 88]) rfl).mono ?_
    rintro e W1 ⟨rfl, rfl⟩
    rw [h2]
    clear h2
    go_wp2_with fail
    refine (number_any HS.out hl 3 6 hlen 16 (.inr rfl) (by omega)).mono ?_
    rintro e W2 ⟨he, b2⟩
    rw [← HO.out] at he
    obtain rfl := he.out
    go_wp2
    go_ret2
    exact ⟨rfl, b2⟩
  | false =>
  cases h3 : [38, 35].isPrefixOf l with
  | true =>
    have HO := Lib.hid (show one l = numRef l 2 10 7 by unfold one; rw [if_neg (by rw [h1, h2]; simp), if_pos h3])
    have hlen := pre_len h3
    go_enter Try.func44, Try.ntmps44
    go_wp2_with fail
    refine (HasPrefix_any HS.out ⟨#[38, 35, 120]⟩ (m := [38, 35, 120]) rfl).mono ?_
    rintro e W1 ⟨rfl, rfl⟩
    rw [h1]
    clear h1
    go_wp2_with fail
    refine (HasPrefix_any HS.out ⟨#[38, 35, 88]⟩ (m := [38, 35, 88]) rfl).mono ?_
    rintro e W1 ⟨rfl, rfl⟩
    rw [h2]
    clear h2
    go_wp2_with fail
    refine (HasPrefix_any HS.out ⟨#[38, 35]⟩ (m := [38, 35]) rfl).mono ?_
    rintro e W1 ⟨rfl, rfl⟩
    rw [h3]
    clear h3
    go_wp2_with fail
    refine (number_any HS.out hl 2 7 hlen 10 (.inl rfl) (by omega)).mono ?_
    rintro e W2 ⟨he, b2⟩
    rw [← HO.out] at he
    obtain rfl := he.out
    go_wp2
    go_ret2
    exact ⟨rfl, b2⟩
  | false =>
  cases h4 : [38].isPrefixOf l with
  | false =>
    have HO := Lib.hid (show one l = (0, 0) by unfold one; rw [if_neg (by rw [h1, h2]; simp), if_neg (by rw [h3]; simp), if_neg (by rw [h4]; simp)])
    go_enter Try.func44, Try.ntmps44
    go_wp2_with fail
    refine (HasPrefix_any HS.out ⟨#[38, 35, 120]⟩ (m := [38, 35, 120]) rfl).mono ?_
    rintro e W1 ⟨rfl, rfl⟩
    rw [h1]
    clear h1
    go_wp2_with fail
    refine (HasPrefix_any HS.out ⟨#[38, 35, 88]⟩ (m := [38, 35, 88]) rfl).mono ?_
    rintro e W1 ⟨rfl, rfl⟩
    rw [h2]
    clear h2
    go_wp2_with fail
    refine (HasPrefix_any HS.out ⟨#[38, 35]⟩ (m := [38, 35]) rfl).mono ?_
    rintro e W1 ⟨rfl, rfl⟩
    rw [h3]
    clear h3
    go_wp2_with fail
    refine (HasPrefix_any HS.out ⟨#[38]⟩ (m := [38]) rfl).mono ?_
    rintro e W1 ⟨rfl, rfl⟩
    rw [h4]
    clear h4
    go_wp2
    go_ret2
    exact ⟨PairIs.zero HO.out, Below.refl _ _⟩
  | true =>
    have HO := Lib.hid (show one l = nameRef l by unfold one; rw [if_neg (by rw [h1, h2]; simp), if_neg (by rw [h3]; simp), if_pos h4])
    have hlen := pre_len h4
    go_enter Try.func44, Try.ntmps44
    go_wp2_with fail
    refine (HasPrefix_any HS.out ⟨#[38, 35, 120]⟩ (m := [38, 35, 120]) rfl).mono ?_
    rintro e W1 ⟨rfl, rfl⟩
    rw [h1]
    clear h1
    go_wp2_with fail
    refine (HasPrefix_any HS.out ⟨#[38, 35, 88]⟩ (m := [38, 35, 88]) rfl).mono ?_
    rintro e W1 ⟨rfl, rfl⟩
    rw [h2]
    clear h2
    go_wp2_with fail
    refine (HasPrefix_any HS.out ⟨#[38, 35]⟩ (m := [38, 35]) rfl).mono ?_
    rintro e W1 ⟨rfl, rfl⟩
    rw [h3]
    clear h3
    go_wp2_with fail
    refine (HasPrefix_any HS.out ⟨#[38]⟩ (m := [38]) rfl).mono ?_
    rintro e W1 ⟨rfl, rfl⟩
    rw [h4]
    clear h4
    go_wp2
    have hone : 1 ≤ s.size := by have := HSZ.out; simp at hlen; omega
    go_loopw [4] (fun i wr => ∃ k : Nat, i = .int .i64 k ∧ 1 ≤ k ∧ k ≤ 8 ∧ k ≤ s.size ∧ Below W1.heap.size W1 wr ∧ semi 7 l.tail = (semi (8 - k) (l.drop k)).map (· + (k - 1))) (fun i _ => 8 - (intOf i).toNat)
    case atStart => exact ⟨1, rfl, Nat.le_refl _, by omega, hone, Below.refl _ _, by simp [List.drop_one]⟩
    case round =>
      obtain ⟨k, rfl, hk1, hk8, hks, hbw, hse⟩ := hrel
      have hsz := HSZ.out
      by_cases hk : k < s.size ∧ k ≤ 7
      · obtain ⟨hk, hk7⟩ := hk
        have hkl : k < l.length := by omega
        rw [show 8 - k = (7 - k) + 1 by omega, List.drop_eq_getElem_cons hkl, semi] at hse
        have e1 := s_byte HS.out k hk hkl
        by_cases h59 : l[k] = 59
        · rw [if_pos h59] at hse
          simp only [Option.map_some, Nat.zero_add] at hse
          rw [h59] at e1
          have hp := s_part HS.out 1 k
          rw [List.drop_one] at hp
          have hnr : nameRef l = match nameOf (l.tail.take (k - 1)) with | none => (0, 0) | some r => (r, k + 1) := by
            unfold nameRef
            rw [hse]
            simp only [show k - 1 + 2 = k + 1 by omega]
            cases nameOf (l.tail.take (k - 1)) <;> rfl
          have HNR := Lib.hid hnr
          clear hnr hse h59 hsz
          go_wp2_with fail
          refine (Name_any hp (by rw [List.length_take]; omega)).mono ?_
          rintro e W2 ⟨rfl, b2⟩
          cases hn : nameOf (l.tail.take (k - 1)) with
          | none =>
            have HZ := Lib.hid (show one l = (0, 0) by rw [HO.out, HNR.out, hn])
            clear hn
            go_wp2
            go_ret2
            exact ⟨PairIs.zero HZ.out, bt hbw b2⟩
          | some r =>
            have HZ := Lib.hid (show one l = (r, k + 1) by rw [HO.out, HNR.out, hn])
            clear hn
            go_wp2
            go_ret2
            exact ⟨by rw [HZ.out]; rfl, bt hbw b2⟩
        · rw [if_neg h59] at hse
          have hne : (((s[k]).toNat : Int) != 59) = true := by
            rw [bne_iff_ne, e1]
            intro e
            exact h59 (UInt8.toNat_inj.1 (by rw [show (59 : UInt8).toNat = 59 from rfl]; omega))
          have HSE := Lib.hid (show semi 7 l.tail = (semi (8 - (k + 1)) (l.drop (k + 1))).map (· + (k + 1 - 1)) by
            rw [hse, Option.map_map, show 8 - (k + 1) = 7 - k by omega]
            congr 1
            funext x
            simp; omega)
          clear hse h59 e1 hsz
          go_wp2
          go_roundw
          case rel => exact ⟨k + 1, by go_num, by omega, by omega, by omega, hbw, HSE.out⟩
          case measure => simp [intOf]; omega
      · have HZ := Lib.hid (show one l = (0, 0) by
          rw [HO.out]
          unfold nameRef
          rw [hse]
          have : semi (8 - k) (l.drop k) = none := by
            by_cases h8 : k = 8
            · subst h8; rfl
            · rw [List.drop_of_length_le (by omega)]
              rw [show 8 - k = (7 - k) + 1 by omega]; rfl
          rw [this]; rfl)
        clear hse hsz
        by_cases hk' : k < s.size
        · have : 7 < k := by omega
          go_wp2
          go_ret2
          exact ⟨PairIs.zero HZ.out, hbw⟩
        · go_wp2
          go_ret2
          exact ⟨PairIs.zero HZ.out, hbw⟩
end Go.Proofs.Ytninjljkdbemkaa
