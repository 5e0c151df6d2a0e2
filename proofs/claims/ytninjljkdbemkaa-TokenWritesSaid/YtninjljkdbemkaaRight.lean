/- Plain law: of a right text what is decoded is right, and what is written. -/
import Derived.Test.YtninjljkdbemkaaRefs
import Derived.Test.YtninjljkdbemkaaRw5
namespace Go.Proofs.Ytninjljkdbemkaa
open Go.Lib

theorem ascii_enc (c : UInt8) (h : c.toNat < 128) : encodeRune (c.toNat : Int) = [c] := by
  have : ∀ n : Nat, n < 128 → encodeRune (n : Int) = [n.toUInt8] := by decide
  rw [this _ h]
  simp
theorem isRight_nil : isRight [] = true := by decide
theorem isRight_one {r : Int} (h : okRune r) (h0 : r ≠ 0) (h13 : r ≠ 13) : isRight (encodeRune r) = true := by
  have := isRight_enc [r] (by intro x hx; rw [List.mem_singleton] at hx; subst hx; exact ⟨h, h0, h13⟩)
  rwa [enc_cons, enc_nil, List.append_nil] at this
/-- a right text is of right characters -/
theorem isRight_form {l : List UInt8} (h : isRight l = true) : l = enc (runes l) ∧ ∀ r ∈ runes l, okRune r ∧ r ≠ 0 ∧ r ≠ 13 := by
  obtain ⟨h1, h2⟩ := (isRight_iff l).1 h
  exact ⟨(enc_runes l h1).symm, fun r hr => ⟨runes_ok l r hr, h2 r hr⟩⟩
theorem isRight_ascii {c : UInt8} {t : List UInt8} (h : isRight (c :: t) = true) (hc : c.toNat < 128) : isRight t = true := by
  obtain ⟨h1, h2⟩ := isRight_form h
  have hs := runes_step (c :: t) (by simp)
  rw [decodeL_ascii c t hc] at hs
  simp only [List.drop_succ_cons, List.drop_zero] at hs
  rw [hs, enc_cons, ascii_enc c hc] at h1
  have ht : t = enc (runes t) := by simpa using h1
  rw [ht]
  exact isRight_enc _ (fun r hr => h2 r (by rw [hs]; exact List.mem_cons_of_mem _ hr))
theorem isRight_drop : ∀ (n : Nat) (l : List UInt8), isRight l = true → (∀ c ∈ l.take n, c.toNat < 128) → isRight (l.drop n) = true
  | 0, l, h, _ => by simpa using h
  | _ + 1, [], h, _ => by simpa using h
  | n + 1, c :: t, h, ha => isRight_drop n t (isRight_ascii h (ha c (by simp))) (fun x hx => ha x (by simp [hx]))

/-- the bytes of one character: one of its own below 128, or all from 128 on -/
theorem enc_bytes (r : Int) (h : okRune r) : (∃ c : UInt8, c.toNat < 128 ∧ (c.toNat : Int) = r ∧ encodeRune r = [c]) ∨ (128 ≤ r ∧ ∀ c ∈ encodeRune r, 128 ≤ c.toNat) := by
  by_cases hr : r < 128
  · left
    have h0 : 0 ≤ r := by unfold okRune at h; omega
    refine ⟨r.toNat.toUInt8, ?_, ?_, ?_⟩
    · rw [toU8n _ (by omega)]; omega
    · rw [toU8n _ (by omega)]; omega
    · have := ascii_enc r.toNat.toUInt8 (by rw [toU8n _ (by omega)]; omega)
      rw [toU8n _ (by omega)] at this
      rwa [show ((r.toNat : Nat) : Int) = r by omega] at this
  · right
    refine ⟨by omega, ?_⟩
    intro c hc
    unfold encodeRune at hc
    obtain ⟨x, hx, rfl⟩ := List.mem_map.1 hc
    have hb : 128 ≤ x ∧ x < 256 := by
      unfold okRune at h
      unfold encodeRuneZ at hx
      rw [if_neg (by omega)] at hx
      split at hx
      · simp only [List.mem_cons, List.not_mem_nil, or_false] at hx; omega
      · split at hx
        · simp only [List.mem_cons, List.not_mem_nil, or_false] at hx; omega
        · split at hx
          · simp only [List.mem_cons, List.not_mem_nil, or_false] at hx; omega
          · simp only [List.mem_cons, List.not_mem_nil, or_false] at hx; omega
    rw [toU8n _ (by omega)]
    omega
theorem esc_high (v : Bool) (l : List UInt8) (h : ∀ c ∈ l, 128 ≤ c.toNat) : esc v l = l := by
  induction l with
  | nil => rfl
  | cons c l ih =>
    have hc := h c (by simp)
    have e : esc v (c :: l) = escB v c ++ esc v l := rfl
    rw [e, ih (fun x hx => h x (by simp [hx]))]
    have : escB v c = [c] := by
      unfold escB
      rw [if_neg (by rintro rfl; exact absurd hc (by decide)), if_neg (by rintro rfl; exact absurd hc (by decide)), if_neg (by rintro rfl; exact absurd hc (by decide)), if_neg (by rintro ⟨rfl, _⟩; exact absurd hc (by decide))]
    rw [this]; rfl
theorem escB_right (v : Bool) (c : UInt8) (h : c.toNat < 128) (h0 : c ≠ 0) (h13 : c ≠ 13) : isRight (escB v c) = true := by
  unfold escB
  split
  · decide
  · split
    · decide
    · split
      · decide
      · split
        · decide
        · rw [← ascii_enc c h]
          refine isRight_one (.inl ⟨by omega, by omega⟩) (fun e => h0 (UInt8.toNat_inj.1 (by rw [show (0 : UInt8).toNat = 0 from rfl]; omega))) (fun e => h13 (UInt8.toNat_inj.1 (by rw [show (13 : UInt8).toNat = 13 from rfl]; omega)))
theorem esc_enc_right (v : Bool) (rs : List Int) (h : ∀ r ∈ rs, okRune r ∧ r ≠ 0 ∧ r ≠ 13) : isRight (esc v (enc rs)) = true := by
  induction rs with
  | nil => exact isRight_nil
  | cons r rs ih =>
    obtain ⟨ho, h0, h13⟩ := h r (by simp)
    rw [enc_cons, esc_append]
    refine isRight_append _ _ ?_ (ih (fun x hx => h x (by simp [hx])))
    rcases enc_bytes r ho with ⟨c, hc, hcr, e⟩ | ⟨_, hh⟩
    · rw [e]
      have : esc v [c] = escB v c := by simp [esc]
      rw [this]
      exact escB_right v c hc (by rintro rfl; exact h0 (by rw [← hcr]; rfl)) (by rintro rfl; exact h13 (by rw [← hcr]; rfl))
    · rw [esc_high v _ hh]
      exact isRight_one ho h0 h13
theorem esc_right (v : Bool) {l : List UInt8} (h : isRight l = true) : isRight (esc v l) = true := by
  obtain ⟨h1, h2⟩ := isRight_form h
  rw [h1]
  exact esc_enc_right v _ h2

/-- a reference is of bytes below 128, and stands for a right character -/
theorem numGo_ascii (base : Int) (most : Nat) : ∀ (l : List UInt8) (n : Int) (k : Nat) (r : Int) (j : Nat), numGo base most l n k = some (r, j) → ∀ c ∈ l.take (j - k + 1), c.toNat < 128
  | [], _, _, _, _, h => by simp
  | c :: t, n, k, r, j, h => by
    intro x hx
    rw [List.take_succ_cons] at hx
    by_cases h59 : c = 59
    · subst h59
      by_cases hk : k = 0
      · rw [numGo_end rfl hk] at h; cases h
      · rw [numGo_fin rfl hk] at h
        simp at h
        obtain ⟨_, rfl⟩ := h
        simp at hx
        subst hx
        decide
    · by_cases ho : digitOf (c.toNat : Int) base < 0 ∨ k = most
      · rw [numGo_odd h59 ho] at h; cases h
      · have hc : c.toNat < 128 := by
          apply Nat.lt_of_not_le
          intro hge
          exact ho (.inl (by rw [digitOf_high _ _ (by omega)]; decide))
        rw [numGo_on h59 ho] at h
        have hle := (numGo_le base most t _ _ _ _ h).1
        rcases List.mem_cons.1 hx with rfl | hx
        · exact hc
        · exact numGo_ascii base most t _ _ _ _ h x (by rw [show j - (k + 1) + 1 = j - k by omega]; exact hx)
theorem take_two (a b : Nat) (l : List UInt8) (P : UInt8 → Prop) (h1 : ∀ c ∈ l.take a, P c) (h2 : ∀ c ∈ (l.drop a).take b, P c) : ∀ c ∈ l.take (a + b), P c := by
  intro c hc
  rw [List.take_add] at hc
  rcases List.mem_append.1 hc with h | h
  · exact h1 c h
  · exact h2 c h
theorem pre_take {p l : List UInt8} (h : p.isPrefixOf l = true) : l.take p.length = p := by
  rw [List.isPrefixOf_iff_prefix] at h
  exact (List.prefix_iff_eq_take.1 h).symm
theorem numRef_ascii {l p : List UInt8} (hp : p.isPrefixOf l = true) (ha : ∀ c ∈ p, c.toNat < 128) (base : Int) (most : Nat) : ∀ c ∈ l.take (numRef l p.length base most).2, c.toNat < 128 := by
  unfold numRef
  cases h : numGo base most (l.drop p.length) 0 0 with
  | none => simp
  | some q =>
    obtain ⟨n, k⟩ := q
    simp only
    rw [Nat.add_assoc]
    refine take_two _ _ _ _ (by rw [pre_take hp]; exact ha) ?_
    have := numGo_ascii base most _ _ _ _ _ h
    rwa [Nat.sub_zero] at this
theorem semi_at : ∀ (n : Nat) (l : List UInt8) (i : Nat), semi n l = some i → l[i]? = some 59
  | 0, _, _, h => by simp [semi] at h
  | n + 1, [], _, h => by simp [semi] at h
  | n + 1, c :: t, i, h => by
    simp only [semi] at h
    split at h
    · rename_i hc; simp at h; subst h; simp [hc]
    · obtain ⟨j, hj, rfl⟩ := Option.map_eq_some_iff.1 h
      simpa using semi_at n t j hj
theorem nameOf_ascii (s : List UInt8) (r : Int) (h : nameOf s = some r) : ∀ c ∈ s, c.toNat < 128 := by
  unfold nameOf at h
  obtain ⟨p, hp, rfl⟩ := Option.map_eq_some_iff.1 h
  have hm := List.mem_of_find?_eq_some hp
  have he := List.find?_some hp
  simp only [beq_iff_eq] at he
  subst he
  have ha : ∀ p ∈ nameTab, ∀ c ∈ p.1, c.toNat < 128 := by decide
  exact ha p hm
theorem nameOf_right (s : List UInt8) (r : Int) (h : nameOf s = some r) : okRune r ∧ r ≠ 0 ∧ r ≠ 13 := by
  unfold nameOf at h
  obtain ⟨p, hp, rfl⟩ := Option.map_eq_some_iff.1 h
  have hm := List.mem_of_find?_eq_some hp
  have ha : ∀ p ∈ nameTab, (0 ≤ p.2 ∧ p.2 < 55296) ∧ p.2 ≠ 0 ∧ p.2 ≠ 13 := by decide
  exact ⟨.inl (ha p hm).1, (ha p hm).2⟩
theorem charOf_right (n : Int) (h : 0 ≤ n) : okRune (charOf n) ∧ charOf n ≠ 0 ∧ charOf n ≠ 13 := by
  unfold charOf okRune
  split <;> omega
theorem numRef_right {l : List UInt8} {f : Nat} {base : Int} (hb : base = 10 ∨ base = 16) {most : Nat} (h : 0 < (numRef l f base most).2) : okRune (numRef l f base most).1 ∧ (numRef l f base most).1 ≠ 0 ∧ (numRef l f base most).1 ≠ 13 := by
  unfold numRef at h ⊢
  cases hg : numGo base most (l.drop f) 0 0 with
  | none => rw [hg] at h; exact absurd h (by simp)
  | some p =>
    obtain ⟨n, k⟩ := p
    exact charOf_right n (numGo_pos base hb most _ _ _ _ _ (Int.le_refl 0) hg)
theorem nameRef_spec {l : List UInt8} (hp : [38].isPrefixOf l = true) (h : 0 < (nameRef l).2) : (okRune (nameRef l).1 ∧ (nameRef l).1 ≠ 0 ∧ (nameRef l).1 ≠ 13) ∧ ∀ c ∈ l.take (nameRef l).2, c.toNat < 128 := by
  unfold nameRef at h ⊢
  cases hs : semi 7 l.tail with
  | none => rw [hs] at h; exact absurd h (by simp)
  | some i =>
    rw [hs] at h
    simp only at h ⊢
    cases hn : nameOf (l.tail.take i) with
    | none => rw [hn] at h; exact absurd h (by simp)
    | some r =>
      simp only
      refine ⟨nameOf_right _ _ hn, ?_⟩
      rw [show i + 2 = 1 + (i + 1) by omega]
      refine take_two _ _ _ _ (by have := pre_take hp; simp only [List.length_singleton] at this; rw [this]; decide) ?_
      rw [List.drop_one]
      refine take_two _ _ _ _ (nameOf_ascii _ _ hn) ?_
      have := semi_at _ _ _ hs
      obtain ⟨hi, he⟩ := List.getElem?_eq_some_iff.1 this
      rw [List.drop_eq_getElem_cons hi, he]
      intro c hc
      simp at hc
      subst hc
      decide
theorem one_spec {l : List UInt8} (h : 0 < (one l).2) : (okRune (one l).1 ∧ (one l).1 ≠ 0 ∧ (one l).1 ≠ 13) ∧ ∀ c ∈ l.take (one l).2, c.toNat < 128 := by
  unfold one at h ⊢
  split at h
  · rename_i hp
    rw [if_pos hp]
    refine ⟨numRef_right (.inr rfl) h, ?_⟩
    rcases hp with hp | hp
    · exact numRef_ascii hp (by decide) 16 6
    · exact numRef_ascii hp (by decide) 16 6
  · rename_i hp
    rw [if_neg hp]
    split at h
    · rename_i hq
      rw [if_pos hq]
      exact ⟨numRef_right (.inl rfl) h, numRef_ascii hq (by decide) 10 7⟩
    · rename_i hq
      rw [if_neg hq]
      split at h
      · rename_i hr
        rw [if_pos hr]
        exact nameRef_spec hr h
      · exact absurd h (by simp)

theorem dec_right {l : List UInt8} (h : isRight l = true) : isRight (dec l) = true := by
  suffices hh : ∀ n (l : List UInt8), l.length ≤ n → isRight l = true → isRight (dec l) = true from hh l.length l (Nat.le_refl _) h
  intro n
  induction n with
  | zero =>
    intro l hl _
    have : l = [] := List.eq_nil_of_length_eq_zero (by omega)
    subst this
    exact isRight_nil
  | succ n ih =>
    intro l hl h
    obtain ⟨h1, h2⟩ := isRight_form h
    rcases hrs : runes l with _ | ⟨r, rs⟩
    · rw [hrs] at h1
      rw [h1]
      exact isRight_nil
    · rw [hrs] at h1 h2
      obtain ⟨ho, h0, h13⟩ := h2 r (by simp)
      have hrest : isRight (enc rs) = true := isRight_enc rs (fun x hx => h2 x (by simp [hx]))
      rw [enc_cons] at h1
      have hel := encodeRune_length r
      have hlen := congrArg List.length h1
      rw [List.length_append] at hlen
      by_cases h38 : r = 38
      · have e38 : encodeRune 38 = [38] := by decide
        rw [h38, e38, List.singleton_append] at h1
        by_cases hone : 0 < (one (38 :: enc rs)).2
        · obtain ⟨⟨q1, q2, q3⟩, q4⟩ := one_spec hone
          have hle := one_le (38 :: enc rs)
          rw [h1, dec_ref _ hone]
          rw [h1] at h
          refine isRight_append _ _ (isRight_one q1 q2 q3) (ih _ ?_ (isRight_drop _ _ h q4))
          rw [List.length_drop, List.length_cons]
          omega
        · rw [h1, dec_amp _ hone]
          have := isRight_append [38] (dec (enc rs)) (by decide) (ih _ (by omega) hrest)
          exact this
      · have hno : ∀ c ∈ encodeRune r, c ≠ 38 := by
          intro c hc e
          rcases enc_bytes r ho with ⟨d, hd, hdr, ed⟩ | ⟨_, hh⟩
          · rw [ed, List.mem_singleton] at hc
            subst hc
            rw [e] at hdr
            exact h38 (by rw [← hdr]; rfl)
          · have := hh c hc
            rw [e] at this
            exact absurd this (by decide)
        rw [h1, dec_plain _ _ hno]
        exact isRight_append _ _ (isRight_one ho h0 h13) (ih _ (by omega) hrest)
end Go.Proofs.Ytninjljkdbemkaa
