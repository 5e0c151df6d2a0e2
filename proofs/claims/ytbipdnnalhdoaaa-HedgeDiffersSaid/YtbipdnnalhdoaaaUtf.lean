/- Plain laws on UTF-8 (no program in sight): the characters of bytes, their bytes again, bytes made right. No condition. -/
import Derived.Lib.ValidLaws
import Derived.Lib.RuneBytes
namespace Go.Proofs.Ytbipdnnalhdoaaa
open Go.Lib

/-- bytes' characters -/
def runesF : Nat → List UInt8 → List Int
  | 0, _ => []
  | n + 1, l => if l = [] then [] else ((decodeL l).1 : Int) :: runesF n (l.drop (decodeL l).2)
def runes (l : List UInt8) : List Int := runesF l.length l

theorem runesF_nil : ∀ n, runesF n [] = []
  | 0 => rfl
  | _ + 1 => by simp [runesF]
theorem runesF_fuel : ∀ (n m : Nat) (l : List UInt8), l.length ≤ n → l.length ≤ m → runesF n l = runesF m l
  | 0, m, l, hn, _ => by
    have : l = [] := List.eq_nil_of_length_eq_zero (by omega)
    subst this
    rw [runesF_nil, runesF_nil]
  | n + 1, 0, l, _, hm => by
    have : l = [] := List.eq_nil_of_length_eq_zero (by omega)
    subst this
    rw [runesF_nil, runesF_nil]
  | n + 1, m + 1, l, hn, hm => by
    unfold runesF
    by_cases hne : l = []
    · simp [hne]
    · have hw := decodeL_width l
      have hl : 0 < l.length := List.length_pos_iff.2 hne
      rw [if_neg hne, if_neg hne, runesF_fuel n m (l.drop (decodeL l).2) (by rw [List.length_drop]; omega) (by rw [List.length_drop]; omega)]
theorem runes_nil : runes [] = [] := rfl
theorem runes_step (l : List UInt8) (hne : l ≠ []) : runes l = ((decodeL l).1 : Int) :: runes (l.drop (decodeL l).2) := by
  have hl : 0 < l.length := List.length_pos_iff.2 hne
  have hw := decodeL_width l
  obtain ⟨n, hn⟩ : ∃ n, l.length = n + 1 := ⟨l.length - 1, by omega⟩
  unfold runes
  rw [hn]
  show (if l = [] then [] else _) = _
  rw [if_neg hne, runesF_fuel n (l.drop (decodeL l).2).length _ (by rw [List.length_drop]; omega) (Nat.le_refl _)]

/-- An induction along the characters. -/
theorem byRunes {P : List UInt8 → Prop} (h0 : P []) (h1 : ∀ l, l ≠ [] → P (l.drop (decodeL l).2) → P l) (l : List UInt8) : P l := by
  suffices h : ∀ n (l : List UInt8), l.length ≤ n → P l from h l.length l (Nat.le_refl _)
  intro n
  induction n with
  | zero =>
    intro l hl
    have : l = [] := List.eq_nil_of_length_eq_zero (by omega)
    subst this
    exact h0
  | succ n ih =>
    intro l hl
    by_cases hne : l = []
    · subst hne; exact h0
    · refine h1 l hne (ih _ ?_)
      have := decodeL_width l
      have hl : 0 < l.length := List.length_pos_iff.2 hne
      rw [List.length_drop]; omega

theorem runes_length (l : List UInt8) : (runes l).length ≤ l.length := by
  induction l using byRunes with
  | h0 => simp [runes_nil]
  | h1 l hne ih =>
    rw [runes_step l hne]
    have := decodeL_width l
    have hl : 0 < l.length := List.length_pos_iff.2 hne
    rw [List.length_drop] at ih
    simp only [List.length_cons]
    omega

/-- Is it a character that may be? -/
def okRune (r : Int) : Prop := (0 ≤ r ∧ r < 55296) ∨ (57343 < r ∧ r ≤ 1114111)

theorem decodeN_ok (n b0 b1 b2 b3 : Nat) (h0 : b0 < 256) : okRune ((decodeN n b0 b1 b2 b3).1 : Int) := by
  unfold okRune
  rcases decodeN_shape n b0 b1 b2 b3 with ⟨c, e⟩ | ⟨c1, c2, c3, cv, e⟩ | ⟨c1, c2, c3, c4, cv, cs, e⟩ | ⟨c1, c2, c3, c4, c5, cv, cw, e⟩ | e <;> rw [e] <;> simp only [] <;> omega
theorem decodeL_ok (l : List UInt8) : okRune ((decodeL l).1 : Int) := by
  rw [decodeL_N]; exact decodeN_ok _ _ _ _ _ (UInt8.toNat_lt _)
theorem runes_ok (l : List UInt8) : ∀ r ∈ runes l, okRune r := by
  induction l using byRunes with
  | h0 => simp [runes_nil]
  | h1 l hne ih =>
    rw [runes_step l hne]
    intro r hr
    rcases List.mem_cons.1 hr with rfl | hr
    · exact decodeL_ok l
    · exact ih r hr

/-- characters' text -/
def enc (l : List Int) : List UInt8 := l.flatMap encodeRune
theorem enc_nil : enc [] = [] := rfl
theorem enc_cons (r : Int) (l : List Int) : enc (r :: l) = encodeRune r ++ enc l := rfl
theorem enc_append (a b : List Int) : enc (a ++ b) = enc a ++ enc b := by simp [enc]
theorem encodeRune_length (r : Int) : 1 ≤ (encodeRune r).length ∧ (encodeRune r).length ≤ 4 := by
  have := runeCells_le r
  rwa [runeCells_length] at this
theorem enc_length (l : List Int) : l.length ≤ (enc l).length ∧ (enc l).length ≤ 4 * l.length := by
  induction l with
  | nil => simp [enc_nil]
  | cons r l ih =>
    have := encodeRune_length r
    rw [enc_cons, List.length_append, List.length_cons]
    omega

theorem toU8 (x : Int) (h0 : 0 ≤ x) (h1 : x < 256) : ((x.toNat.toUInt8).toNat : Int) = x := by
  simp only [Nat.toUInt8_eq, UInt8.toNat_ofNat']
  omega
theorem toU8n (x : Nat) (h1 : x < 256) : (x.toUInt8).toNat = x := by
  simp only [Nat.toUInt8_eq, UInt8.toNat_ofNat']
  omega

/-- Decoding the text of a character gives it back. -/
theorem decode_encode (r : Int) (h : okRune r) (t : List UInt8) : decodeL (encodeRune r ++ t) = (r.toNat, (encodeRune r).length) := by
  unfold okRune at h
  rw [decodeL_N]
  by_cases h1 : r ≤ 127
  · have e : encodeRune r = [r.toNat.toUInt8] := by rw [encodeRune, encodeRuneZ_one (by omega) h1]; rfl
    have x := toU8n r.toNat (by omega)
    rw [e]
    simp only [List.cons_append, List.nil_append, List.getD_cons_zero, x, List.length_cons, List.length_nil]
    rw [decodeN, if_pos (by omega)]
  · by_cases h2 : r ≤ 2047
    · have e : encodeRune r = [(192 + r / 64).toNat.toUInt8, (128 + r % 64).toNat.toUInt8] := by rw [encodeRune, encodeRuneZ_two (by omega) h2]; rfl
      have x0 := toU8n (192 + r / 64).toNat (by omega)
      have x1 := toU8n (128 + r % 64).toNat (by omega)
      rw [e]
      simp only [List.cons_append, List.nil_append, List.getD_cons_zero, List.getD_cons_succ, x0, x1, List.length_cons, List.length_nil]
      rw [decodeN, if_neg (by omega), if_pos (by omega), if_pos (by omega)]
      congr 1
      omega
    · by_cases h3 : r ≤ 65535
      · have e : encodeRune r = [(224 + r / 4096).toNat.toUInt8, (128 + r / 64 % 64).toNat.toUInt8, (128 + r % 64).toNat.toUInt8] := by
          rw [encodeRune, encodeRuneZ_three (by omega)]; rfl
        have x0 := toU8n (224 + r / 4096).toNat (by omega)
        have x1 := toU8n (128 + r / 64 % 64).toNat (by omega)
        have x2 := toU8n (128 + r % 64).toNat (by omega)
        rw [e]
        simp only [List.cons_append, List.nil_append, List.getD_cons_zero, List.getD_cons_succ, x0, x1, x2, List.length_cons, List.length_nil]
        rw [decodeN, if_neg (by omega), if_neg (by omega), if_pos (by omega), if_pos (by omega)]
        congr 1
        omega
      · have e : encodeRune r = [(240 + r / 262144).toNat.toUInt8, (128 + r / 4096 % 64).toNat.toUInt8, (128 + r / 64 % 64).toNat.toUInt8, (128 + r % 64).toNat.toUInt8] := by
          rw [encodeRune, encodeRuneZ_four (by omega) (by omega)]; rfl
        have x0 := toU8n (240 + r / 262144).toNat (by omega)
        have x1 := toU8n (128 + r / 4096 % 64).toNat (by omega)
        have x2 := toU8n (128 + r / 64 % 64).toNat (by omega)
        have x3 := toU8n (128 + r % 64).toNat (by omega)
        rw [e]
        simp only [List.cons_append, List.nil_append, List.getD_cons_zero, List.getD_cons_succ, x0, x1, x2, x3, List.length_cons, List.length_nil]
        rw [decodeN, if_neg (by omega), if_neg (by omega), if_neg (by omega), if_pos (by omega), if_pos (by omega)]
        congr 1
        omega

theorem encodeRune_ne (r : Int) (t : List UInt8) : encodeRune r ++ t ≠ [] := by
  have := encodeRune_length r
  intro h
  have h2 := congrArg List.length h
  rw [List.length_append, List.length_nil] at h2
  omega

theorem okRune_cast {r : Int} (h : okRune r) : ((r.toNat : Nat) : Int) = r := by unfold okRune at h; omega

/-- The characters of characters' text are they, if each may be. -/
theorem runes_enc (l : List Int) (h : ∀ r ∈ l, okRune r) : runes (enc l) = l := by
  induction l with
  | nil => rfl
  | cons r l ih =>
    rw [enc_cons, runes_step _ (encodeRune_ne r _), decode_encode r (h r (by simp)) (enc l)]
    simp only [List.drop_left, ih (fun x hx => h x (by simp [hx])), okRune_cast (h r (by simp))]
/-- .. and it is valid. -/
theorem valid_enc (l : List Int) (h : ∀ r ∈ l, okRune r) : validD (enc l) = true := by
  induction l with
  | nil => rfl
  | cons r l ih =>
    rw [enc_cons, validD_step _ (encodeRune_ne r _), decode_encode r (h r (by simp)) (enc l)]
    simp only [List.drop_left, ih (fun x hx => h x (by simp [hx]))]
    rw [if_neg]
    rintro ⟨h1, h2⟩
    have hr : r = 65533 := by have := h r (by simp); unfold okRune at this; omega
    subst hr
    revert h2
    decide
/-- A valid text is its characters' text. -/
theorem enc_runes (l : List UInt8) : validD l = true → enc (runes l) = l := by
  induction l using byRunes with
  | h0 => intro _; rfl
  | h1 l hne ih =>
    intro hv
    rw [validD_step l hne] at hv
    by_cases hb : (decodeL l).1 = 65533 ∧ (decodeL l).2 = 1
    · rw [if_pos hb] at hv; cases hv
    · rw [if_neg hb] at hv
      rw [runes_step l hne, enc_cons, ih hv, encode_decode l hne hb, List.take_append_drop]

/-- what is told of characters in a row that are made right; ret: the one ahead was a return -/
def fix : Bool → List Int → List Int
  | _, [] => []
  | ret, r :: t => (if r = 10 ∧ ret = true then [] else [if r = 13 then 10 else if r = 0 then 65533 else r]) ++ fix (r == 13) t
def right (l : List UInt8) : List UInt8 := enc (fix false (runes l))

def prevOf (ret : Bool) (l : List Int) : Bool := l.foldl (fun _ x => x == 13) ret
theorem prevOf_snoc (ret : Bool) (l : List Int) (r : Int) : prevOf ret (l ++ [r]) = (r == 13) := by simp [prevOf]
theorem fix_snoc (ret : Bool) (l : List Int) (r : Int) : fix ret (l ++ [r]) = fix ret l ++ (if r = 10 ∧ prevOf ret l = true then [] else [if r = 13 then 10 else if r = 0 then 65533 else r]) := by
  induction l generalizing ret with
  | nil => by_cases h : r = 10 ∧ ret = true <;> simp [fix, prevOf, h]
  | cons a l ih =>
    rw [List.cons_append, fix, ih, fix, List.append_assoc]
    rfl

theorem fix_length (ret : Bool) (l : List Int) : (fix ret l).length ≤ l.length := by
  induction l generalizing ret with
  | nil => simp [fix]
  | cons r l ih =>
    have := ih (r == 13)
    rw [fix, List.length_append]
    split <;> simp <;> omega

theorem fix_ok (ret : Bool) (l : List Int) (h : ∀ r ∈ l, okRune r) : ∀ r ∈ fix ret l, okRune r ∧ r ≠ 0 ∧ r ≠ 13 := by
  induction l generalizing ret with
  | nil => simp [fix]
  | cons a l ih =>
    intro r hr
    rw [fix, List.mem_append] at hr
    rcases hr with hr | hr
    · split at hr
      · cases hr
      · rw [List.mem_singleton] at hr
        subst hr
        have ha := h a (by simp)
        split
        · unfold okRune; omega
        · split
          · unfold okRune; omega
          · exact ⟨ha, by omega, by omega⟩
    · exact ih _ (fun x hx => h x (by simp [hx])) r hr

theorem fix_same (l : List Int) (h : ∀ r ∈ l, r ≠ 0 ∧ r ≠ 13) : fix false l = l := by
  induction l with
  | nil => rfl
  | cons a l ih =>
    have ha := h a (by simp)
    have e : (a == 13) = false := by simp [ha.2]
    rw [fix, e, ih (fun x hx => h x (by simp [hx]))]
    simp [ha.1, ha.2]

/-- Is a text right? -/
def isRight (l : List UInt8) : Bool := validD l && (runes l).all fun r => r != 0 && r != 13
theorem isRight_iff (l : List UInt8) : isRight l = true ↔ validD l = true ∧ ∀ r ∈ runes l, r ≠ 0 ∧ r ≠ 13 := by
  simp [isRight]
theorem isRight_enc (l : List Int) (h : ∀ r ∈ l, okRune r ∧ r ≠ 0 ∧ r ≠ 13) : isRight (enc l) = true := by
  rw [isRight_iff, runes_enc l (fun r hr => (h r hr).1)]
  exact ⟨valid_enc l (fun r hr => (h r hr).1), fun r hr => (h r hr).2⟩
theorem right_is (l : List UInt8) : isRight (right l) = true := isRight_enc _ (fix_ok _ _ (runes_ok l))
theorem right_right (l : List UInt8) (h : isRight l = true) : right l = l := by
  rw [isRight_iff] at h
  rw [right, fix_same _ h.2, enc_runes l h.1]
theorem right_length (l : List UInt8) : (right l).length ≤ 4 * l.length := by
  have h1 := (enc_length (fix false (runes l))).2
  have h2 := fix_length false (runes l)
  have h3 := runes_length l
  unfold right
  omega
theorem runes_append (a b : List UInt8) (ha : validD a = true) (hb : validD b = true) : runes (a ++ b) = runes a ++ runes b := by
  have h1 := enc_runes a ha
  have h2 := enc_runes b hb
  have : a ++ b = enc (runes a ++ runes b) := by rw [enc_append, h1, h2]
  rw [this]
  exact runes_enc _ (fun r hr => (List.mem_append.1 hr).elim (runes_ok a r) (runes_ok b r))
theorem valid_append (a b : List UInt8) (ha : validD a = true) (hb : validD b = true) : validD (a ++ b) = true := by
  have h1 := enc_runes a ha
  have h2 := enc_runes b hb
  have : a ++ b = enc (runes a ++ runes b) := by rw [enc_append, h1, h2]
  rw [this]
  exact valid_enc _ (fun r hr => (List.mem_append.1 hr).elim (runes_ok a r) (runes_ok b r))
theorem isRight_append (a b : List UInt8) (ha : isRight a = true) (hb : isRight b = true) : isRight (a ++ b) = true := by
  rw [isRight_iff] at *
  refine ⟨valid_append a b ha.1 hb.1, ?_⟩
  rw [runes_append a b ha.1 hb.1]
  intro r hr
  exact (List.mem_append.1 hr).elim (ha.2 r) (hb.2 r)
end Go.Proofs.Ytbipdnnalhdoaaa
