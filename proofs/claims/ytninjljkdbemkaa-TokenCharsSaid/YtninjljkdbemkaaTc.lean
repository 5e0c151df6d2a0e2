/- The law TokenChars. -/
import Derived.Test.YtninjljkdbemkaaTl
namespace Go.Proofs.Ytninjljkdbemkaa
open Go.RowKit

theorem charL_bare : ∀ {l : List UInt8}, (∀ x ∈ l, x ≠ 60) → charL l = l.length
  | [], _ => rfl
  | c :: t, h => by
    have h0 : startsL (c :: t) = false := by
      rw [← Bool.not_eq_true]
      intro hs
      have := startsL_head hs
      simp at this
      exact h c (by simp) this
    rw [charL, h0, charL_bare (fun x hx => h x (by simp [hx]))]
    simp
    omega
theorem starts_bare {l : List UInt8} (h : ∀ x ∈ l, x ≠ 60) : startsL l = false := by
  rw [← Bool.not_eq_true]
  intro hs
  have := startsL_head hs
  exact h 60 (List.mem_of_getElem? this) rfl
/-- a text without <: one token of characters -/
theorem toksL_bare {l : List UInt8} (h : ∀ x ∈ l, x ≠ 60) (hl : l ≠ []) : toksL l = [charTk (dec l)] := by
  rw [toksL_round hl]
  have ht := tag_1 (starts_bare h)
  have hr : tokRound l = ([charTk (dec l)], []) := by
    unfold tokRound
    rw [ht]
    simp only [if_true, charL_bare h, List.take_length, List.drop_length]
  rw [hr, toksL_nil]
  rfl
theorem toksL_esc (s : List UInt8) : toksL (esc false s) = if s = [] then [] else [charTk s] := by
  by_cases h : s = []
  · subst h; rfl
  · rw [if_neg h]
    have h1 := (esc_length false s).1
    have hne : esc false s ≠ [] := by
      intro e
      rw [e] at h1
      have h2 := List.length_pos_iff.2 h
      rw [List.length_nil] at h1
      omega
    rw [toksL_bare (fun x hx => (esc_bare false s x hx).1) hne, dec_esc_self]

set_option maxHeartbeats 1000000 in
set_option maxRecDepth 100000 in
/-- strainerref04.one of a text -/
theorem RefOne_text {w : World} (tx nm : List UInt8) (A B : Value) (hl : tx.length ≤ 1000000) :
    Calls Try.prog 21 #[.agg #[.int .i64 2, .string ⟨nm.toArray⟩, A, .string ⟨tx.toArray⟩, B], .bool false] w fun e w' => e = .returned (.string ⟨(esc false tx).toArray⟩) ∧ Below w.heap.size w w' := by
  go_enter Try.func21, Try.ntmps21
  go_wp2_with fail
  refine (REscape_any (IsStr.mk tx) (by omega) false).mono ?_
  rintro e W1 ⟨s, rfl, hs, b1⟩
  obtain rfl := hs.to
  have ba := (Below.refl w.heap.size w).alloc (Nat.le_refl _) (.cells #[.int .i64 2, .string ⟨nm.toArray⟩, A, .string ⟨tx.toArray⟩, B] 28)
  go_wp2
  go_ret
  exact ⟨rfl, ba.trans (b1.mono (by simp))⟩
set_option maxHeartbeats 1000000 in
set_option maxRecDepth 100000 in
/-- strainerref04.Text of one text -/
theorem RefText_text {w : World} {A : Option Addr} {c : Nat} {tx : List UInt8} (hN : Nodes w w.heap.size A 1 [.mk 2 [] [] tx []]) (hc : 1 ≤ c) (hl : tx.length ≤ 1000000) :
    Calls Try.prog 10 #[.slice A 1 c] w fun e w' => e = .returned (.string ⟨(esc false tx).toArray⟩) ∧ Below w.heap.size w w' := by
  obtain ⟨a, rfl, hna⟩ := hN.node (k := 0) (by decide) (by simp)
  rw [Nat.zero_mul, add0, List.getElem_cons_zero] at hna
  have gk := hna.k
  have gn := hna.nm
  have gt := hna.tx
  obtain ⟨A2, c2, ga, hac, hat⟩ := hna.ats
  obtain ⟨A3, c3, gd, hdc, hkd⟩ := hna.kd
  simp only [Nd.kind, Nd.name, Nd.text, Nd.attrs, Nd.kids] at gk gn gt ga gd
  have hcat : (⟨#[]⟩ : ByteArray) ++ ⟨(esc false tx).toArray⟩ = ⟨(esc false tx).toArray⟩ := by
    have := cat_str [] (esc false tx)
    simpa using this
  have hlen := (esc_length false tx).2
  go_enter Try.func10, Try.ntmps10
  go_wp2_with fail
  go_loopw [3, 4] (fun sv' iv wr => ∃ k : Nat, sv' = .string ⟨(if k = 0 then [] else esc false tx).toArray⟩ ∧ iv = .int .i64 k ∧ k ≤ 1 ∧ Below w.heap.size w wr) (fun _ iv _ => 1 - (intOf iv).toNat)
  case atStart => exact ⟨0, rfl, rfl, Nat.zero_le _, Below.refl _ _⟩
  case round =>
    obtain ⟨k, rfl, rfl, hk, hb⟩ := hrel
    by_cases hk0 : k = 0
    · subst hk0
      have hna2 := hna.keep hb
      have gk := hna2.k
      have gn := hna2.nm
      have gt := hna2.tx
      have ga2 := (hb.cell (p := ⟨a.block, a.off + 2, none⟩) hna.1).trans ga
      have gd2 := (hb.cell (p := ⟨a.block, a.off + 4, none⟩) hna.1).trans gd
      simp only [Nd.kind, Nd.name, Nd.text, Nd.attrs, Nd.kids] at gk gn gt
      rw [if_pos rfl]
      clear hna hna2 ga gd hat hkd hN
      go_wp2_with fail
      refine (RefOne_text tx [] _ _ (by omega)).mono ?_
      rintro e W1 ⟨rfl, b1⟩
      have B1 := hb.trans (b1.mono hb.size)
      go_wp2
      go_roundw
      case rel => exact ⟨1, rfl, by go_num, Nat.le_refl _, B1⟩
      case measure => simp [intOf]
    · obtain rfl : k = 1 := by omega
      rw [if_neg (by decide)]
      clear hna ga gd hat hkd hN
      go_wp2
      go_ret
      exact ⟨rfl, hb⟩

set_option maxHeartbeats 1000000 in
set_option maxRecDepth 100000 in
/-- strainerlaw05.TokenChars -/
theorem TokenChars_calls {w : World} {n c : Nat} {A : Option Addr} {l0 : List UInt8} (hr : Rd w w.heap.size 1 A n (Lib.byteCells l0)) (hnc : n ≤ c) (hc : c ≤ maxLen) (hM : M0 w) :
    Calls Try.prog 4 #[.slice A n c] w fun e w' => e = .returned (.bool true) ∧ Below w.heap.size w w' := by
  have HM := Lib.hid hM
  clear hM
  have hx := right_length (l0.take 300)
  have hl3 := len_take l0 300
  go_enter Try.func4, Try.ntmps4
  go_wp2_with fail
  refine (few05 hr hnc hc).mono ?_
  rintro e W1 ⟨rfl, b1⟩
  generalize right (l0.take 300) = s at *
  have hs1 : s.length ≤ 1200 := by omega
  have hN := nodes_one W1 2 [] s
  have ba := (Below.refl W1.heap.size W1).alloc (Nat.le_refl _) (.cells #[.int .i64 2, sv [], .slice none 0 0, sv s, .slice none 0 0] 28)
  have B2 := bt b1 ba
  have he := (esc_length false s).2
  have HTK := Lib.hid (toksL_esc s)
  have hM2 := HM.out.below B2
  unfold sv at hN ba B2 hM2
  clear hx hl3 hr b1
  go_wp2_with fail
  refine (RefText_text (tx := s) (hN.more (by simp)) (Nat.le_refl 1) (by omega)).mono ?_
  rintro e W2 ⟨rfl, b2⟩
  have B3 := bt B2 b2
  have hM3 := HM.out.below B3
  clear hN b2 ba B2 hM2
  generalize hes : esc false s = t at *
  go_wp2_with fail
  refine (Tokens_any (l := t) (IsStr.mk t) (by omega) hM3).mono ?_
  rintro e W3 ⟨A1, c1, rfl, hc1, hP, b3⟩
  have hP1 : Toks W3 W3.heap.size A1 _ _ := ToksP.lt hP (fun b hb => hb.2)
  have B4 := bt B3 b3
  have hM4 := HM.out.below B4
  rw [HTK.out] at hP1 hc1 ⊢
  clear hP B3 hM3 b3 hes
  cases s with
  | nil =>
    rw [if_pos rfl] at hP1 hc1 ⊢
    go_wp2_with fail
    refine (lives05 hM4).mono ?_
    rintro e W5 ⟨rfl, b5⟩
    go_wp2
    go_ret
    exact ⟨rfl, bt B4 b5⟩
  | cons b0 b1 =>
    rw [if_neg (by simp)] at hP1 hc1 ⊢
    obtain ⟨a, A0, c0, rfl, hab, k0, n0, ats0, t0, hc0, hat0⟩ := hP1.at_ (k := 0) (by simp) (by simp)
    rw [Nat.zero_mul, add0] at k0 n0 ats0 t0
    simp only [List.getElem_cons_zero, charTk] at k0 t0
    clear hat0 ats0 n0 hP1
    go_wp2_with fail
    refine (lives05 hM4).mono ?_
    rintro e W5 ⟨rfl, b5⟩
    go_wp2
    go_ret
    exact ⟨rfl, bt B4 b5⟩
end Go.Proofs.Ytninjljkdbemkaa
