/- Plain: a right text's parts between bytes below 128 are right; small letters keep it. -/
import Derived.Test.YtninjljkdbemkaaTbp
namespace Go.Proofs.Ytninjljkdbemkaa

/-- a place at which a character begins, or ends -/
def CutAt (l : List UInt8) (n : Nat) : Prop := (∀ c, l[n]? = some c → c.toNat < 128) ∨ ∃ c, 0 < n ∧ l[n - 1]? = some c ∧ c.toNat < 128
theorem enc_cut : ∀ (rs : List Int) (n : Nat), (∀ r ∈ rs, okRune r ∧ r ≠ 0 ∧ r ≠ 13) → n ≤ (enc rs).length → CutAt (enc rs) n →
    ∃ k, (enc rs).take n = enc (rs.take k) ∧ (enc rs).drop n = enc (rs.drop k)
  | [], n, _, hn, _ => ⟨0, by simp [enc_nil], by simp [enc_nil]⟩
  | r :: rs, n, hr, hn, hc => by
    rw [enc_cons] at hn hc ⊢
    by_cases h0 : n = 0
    · subst h0; exact ⟨0, by simp [enc_nil], by simp [enc_cons]⟩
    · by_cases h1 : (Lib.encodeRune r).length ≤ n
      · obtain ⟨m, rfl⟩ : ∃ m, n = (Lib.encodeRune r).length + m := ⟨n - (Lib.encodeRune r).length, by omega⟩
        by_cases hm : m = 0
        · subst hm
          refine ⟨1, ?_, ?_⟩
          · simp [enc_cons, enc_nil]
          · simp
        · obtain ⟨k, h2, h3⟩ := enc_cut rs m (fun x hx => hr x (by simp [hx])) (by rw [List.length_append] at hn; omega) (by
            rcases hc with h | ⟨c, hp, h, h128⟩
            · left
              intro c hc
              apply h c
              rw [List.getElem?_append_right (by omega), ← hc]
              congr 1; omega
            · right
              refine ⟨c, by omega, ?_, h128⟩
              rw [List.getElem?_append_right (by omega)] at h
              rw [← h]; congr 1; omega)
          refine ⟨k + 1, ?_, ?_⟩
          · rw [List.take_length_add_append, h2, List.take_succ_cons, enc_cons]
          · rw [List.drop_length_add_append, h3, List.drop_succ_cons]
      · exfalso
        rcases enc_bytes r (hr r (by simp)).1 with ⟨c, _, _, e⟩ | ⟨_, hb⟩
        · rw [e] at h1; simp at h1; omega
        · rcases hc with h | ⟨c, hp, h, h128⟩
          · have hlt : n < (Lib.encodeRune r).length := by omega
            have h2 := h (Lib.encodeRune r)[n] (by rw [List.getElem?_append_left hlt, List.getElem?_eq_getElem hlt])
            have h3 := hb _ (List.getElem_mem hlt)
            omega
          · have hlt : n - 1 < (Lib.encodeRune r).length := by omega
            rw [List.getElem?_append_left hlt, List.getElem?_eq_getElem hlt] at h
            injection h with h
            have h3 := hb _ (List.getElem_mem hlt)
            rw [h] at h3
            omega
theorem right_cut {l : List UInt8} (h : isRight l = true) {n : Nat} (hn : n ≤ l.length) (hc : CutAt l n) : isRight (l.take n) = true ∧ isRight (l.drop n) = true := by
  obtain ⟨h1, h2⟩ := isRight_form h
  rw [h1] at hn hc ⊢
  obtain ⟨k, h3, h4⟩ := enc_cut (runes l) n h2 hn hc
  rw [h3, h4]
  exact ⟨isRight_enc _ (fun r hr => h2 r (List.mem_of_mem_take hr)), isRight_enc _ (fun r hr => h2 r (List.mem_of_mem_drop hr))⟩
theorem right_end {l : List UInt8} (h : isRight l = true) : isRight (l.drop l.length) = true := by rw [List.drop_length]; exact isRight_nil

/-- a small letter's character -/
def lowR (r : Int) : Int := if 65 ≤ r ∧ r ≤ 90 then r + 32 else r
theorem lower_high {c : UInt8} (h : 128 ≤ c.toNat) : lower c = c := by
  unfold lower; rw [if_neg (by omega)]
theorem map_lower_enc (r : Int) (h : okRune r) : (Lib.encodeRune r).map lower = Lib.encodeRune (lowR r) := by
  rcases enc_bytes r h with ⟨c, hc, he, e⟩ | ⟨h128, hb⟩
  · have h1 := lower_int c
    have h2 : lowR r = ((lower c).toNat : Int) := by unfold lowR; rw [h1, he]
    have h3 : (lower c).toNat < 128 := by
      have := c.toNat_lt
      split at h1 <;> omega
    rw [e, h2, ascii_enc _ h3]
    rfl
  · have : lowR r = r := by unfold lowR; rw [if_neg (by omega)]
    rw [this]
    conv => rhs; rw [← List.map_id (Lib.encodeRune r)]
    exact List.map_congr_left fun c hc => lower_high (hb c hc)
theorem lowL_right {l : List UInt8} (h : isRight l = true) : isRight (lowL l) = true := by
  obtain ⟨h1, h2⟩ := isRight_form h
  have : ∀ rs : List Int, (∀ r ∈ rs, okRune r ∧ r ≠ 0 ∧ r ≠ 13) → (enc rs).map lower = enc (rs.map lowR) := by
    intro rs
    induction rs with
    | nil => intro _; rfl
    | cons r rs ih =>
      intro hr
      rw [enc_cons, List.map_append, map_lower_enc r (hr r (by simp)).1, ih (fun x hx => hr x (by simp [hx])), List.map_cons, enc_cons]
  unfold lowL
  rw [h1, this _ h2]
  refine isRight_enc _ (fun r hr => ?_)
  obtain ⟨x, hx, rfl⟩ := List.mem_map.1 hr
  have hx := h2 x hx
  unfold lowR
  split
  · refine ⟨?_, by omega, by omega⟩
    unfold okRune; omega
  · exact hx
/-- a byte of a name, with a small letter, is none that may not be -/
theorem low_good (c : UInt8) (h : anB c = true) : badB (lower c) = false := by
  simp only [anB, Bool.and_eq_true, Bool.not_eq_true', bne_iff_ne, blk, Bool.or_eq_false_iff, beq_eq_false_iff_ne] at h
  rw [← Bool.not_eq_true, badB_iff, lower_int]
  have := c.toNat_lt
  split <;> omega
theorem low_attrd {l : List UInt8} (h : isRight l = true) (ha : ∀ c ∈ l, anB c = true) (hne : l ≠ []) : attrdL (lowL l) = true := by
  unfold attrdL
  rw [lowL_right h]
  have h1 : ((lowL l).all fun c => !badB c) = true := by
    rw [List.all_eq_true]
    intro c hc
    obtain ⟨d, hd, rfl⟩ := List.mem_map.1 hc
    rw [low_good d (ha d hd)]; rfl
  have h2 : (lowL l).isEmpty = false := by
    cases l with
    | nil => exact absurd rfl hne
    | cons => rfl
  rw [h1, h2]; rfl
end Go.Proofs.Ytninjljkdbemkaa
