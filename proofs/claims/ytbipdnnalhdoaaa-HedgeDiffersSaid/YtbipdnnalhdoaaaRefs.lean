/- Plain laws on character references (no program in sight): a reference at a text's beginning, a text with its references told, a text written. -/
import Derived.Test.YtbipdnnalhdoaaaUtf
namespace Go.Proofs.Ytbipdnnalhdoaaa
open Go.Lib

/-- the names -/
def nameTab : List (List UInt8 × Int) := [([97, 109, 112], 38), ([108, 116], 60), ([103, 116], 62), ([113, 117, 111, 116], 34), ([97, 112, 111, 115], 39), ([110, 98, 115, 112], 160), ([99, 111, 112, 121], 169), ([114, 101, 103], 174), ([100, 101, 103], 176), ([109, 105, 100, 100, 111, 116], 183), ([116, 105, 109, 101, 115], 215), ([110, 100, 97, 115, 104], 8211), ([109, 100, 97, 115, 104], 8212), ([104, 101, 108, 108, 105, 112], 8230), ([101, 117, 114, 111], 8364)]
def nameOf (s : List UInt8) : Option Int := (nameTab.find? fun p => p.1 == s).map (·.2)

/-- a digit of a base; below 0: it is none -/
def digitOf (c base : Int) : Int :=
  if 48 ≤ c ∧ c ≤ 57 then c - 48 else if base = 16 ∧ 97 ≤ c ∧ c ≤ 102 then c - 97 + 10 else if base = 16 ∧ 65 ≤ c ∧ c ≤ 70 then c - 65 + 10 else -1
theorem digitOf_bd (c base : Int) (hb : base = 10 ∨ base = 16) : -1 ≤ digitOf c base ∧ digitOf c base < base := by
  unfold digitOf
  repeat' split
  all_goals omega

/-- digits up to a ';': the number, and how many there were; n and k: those ahead -/
def numGo (base : Int) (most : Nat) : List UInt8 → Int → Nat → Option (Int × Nat)
  | [], _, _ => none
  | c :: t, n, k =>
    if c = 59 then (if k = 0 then none else some (n, k))
    else if digitOf c.toNat base < 0 ∨ k = most then none
    else numGo base most t (n * base + digitOf c.toNat base) (k + 1)
def charOf (n : Int) : Int := if n = 0 ∨ n = 13 ∨ (55296 ≤ n ∧ n ≤ 57343) ∨ n > 1114111 then 65533 else n
/-- a reference by a number, behind a beginning of 'from' bytes: the character, and its bytes -/
def numRef (l : List UInt8) (from_ : Nat) (base : Int) (most : Nat) : Int × Nat :=
  match numGo base most (l.drop from_) 0 0 with
  | none => (0, 0)
  | some (n, k) => (charOf n, from_ + k + 1)

/-- where the first ';' stands among at most so many -/
def semi : Nat → List UInt8 → Option Nat
  | 0, _ => none
  | _ + 1, [] => none
  | n + 1, c :: t => if c = 59 then some 0 else (semi n t).map (· + 1)
def nameRef (l : List UInt8) : Int × Nat :=
  match semi 7 l.tail with
  | none => (0, 0)
  | some i => match nameOf (l.tail.take i) with
    | none => (0, 0)
    | some r => (r, i + 2)
/-- refs.One -/
def one (l : List UInt8) : Int × Nat :=
  if [38, 35, 120].isPrefixOf l ∨ [38, 35, 88].isPrefixOf l then numRef l 3 16 6
  else if [38, 35].isPrefixOf l then numRef l 2 10 7
  else if [38].isPrefixOf l then nameRef l
  else (0, 0)

theorem semi_le : ∀ (n : Nat) (l : List UInt8) (i : Nat), semi n l = some i → i < n ∧ i < l.length
  | 0, _, _, h => by simp [semi] at h
  | n + 1, [], _, h => by simp [semi] at h
  | n + 1, c :: t, i, h => by
    simp only [semi] at h
    split at h
    · simp at h; subst h; simp
    · obtain ⟨j, hj, rfl⟩ := Option.map_eq_some_iff.1 h
      have := semi_le n t j hj
      simp; omega
theorem numGo_le (base : Int) (most : Nat) : ∀ (l : List UInt8) (n : Int) (k : Nat) (r : Int) (j : Nat), numGo base most l n k = some (r, j) → k ≤ j ∧ j - k < l.length
  | [], _, _, _, _, h => by simp [numGo] at h
  | c :: t, n, k, r, j, h => by
    simp only [numGo] at h
    split at h
    · split at h
      · cases h
      · simp at h; obtain ⟨_, rfl⟩ := h; simp
    · split at h
      · cases h
      · have := numGo_le base most t _ _ _ _ h
        simp; omega
theorem numRef_le (l : List UInt8) (f : Nat) (base : Int) (most : Nat) (hf : 1 ≤ f) : (numRef l f base most).2 ≤ l.length := by
  unfold numRef
  cases h : numGo base most (l.drop f) 0 0 with
  | none => simp
  | some p =>
    obtain ⟨n, k⟩ := p
    have := numGo_le base most _ _ _ _ _ h
    rw [List.length_drop] at this
    simp only
    omega
theorem nameRef_le (l : List UInt8) : (nameRef l).2 ≤ l.length := by
  unfold nameRef
  cases h : semi 7 l.tail with
  | none => simp
  | some i =>
    have := semi_le _ _ _ h
    rw [List.length_tail] at this
    simp only
    cases nameOf (l.tail.take i) <;> simp <;> omega
theorem one_le (l : List UInt8) : (one l).2 ≤ l.length := by
  unfold one
  split
  · exact numRef_le _ _ _ _ (by omega)
  · split
    · exact numRef_le _ _ _ _ (by omega)
    · split
      · exact nameRef_le _
      · simp

/-- a text with its references told -/
def decF : Nat → List UInt8 → List UInt8
  | 0, _ => []
  | _ + 1, [] => []
  | n + 1, c :: t => if c = 38 then (if 0 < (one (c :: t)).2 then encodeRune (one (c :: t)).1 ++ decF n ((c :: t).drop (one (c :: t)).2) else 38 :: decF n t) else c :: decF n t
def dec (l : List UInt8) : List UInt8 := decF l.length l
theorem decF_fuel : ∀ (n m : Nat) (l : List UInt8), l.length ≤ n → l.length ≤ m → decF n l = decF m l
  | 0, m, l, hn, _ => by
    have : l = [] := List.eq_nil_of_length_eq_zero (by omega)
    subst this
    cases m <;> rfl
  | n + 1, 0, l, _, hm => by
    have : l = [] := List.eq_nil_of_length_eq_zero (by omega)
    subst this
    rfl
  | n + 1, m + 1, [], _, _ => rfl
  | n + 1, m + 1, c :: t, hn, hm => by
    simp only [List.length_cons] at hn hm
    unfold decF
    rw [decF_fuel n m t (by omega) (by omega)]
    by_cases h0 : 0 < (one (c :: t)).2
    · rw [decF_fuel n m ((c :: t).drop (one (c :: t)).2) (by rw [List.length_drop, List.length_cons]; omega) (by rw [List.length_drop, List.length_cons]; omega)]
    · simp only [if_neg h0]
theorem dec_nil : dec [] = [] := rfl
theorem dec_other (c : UInt8) (t : List UInt8) (h : c ≠ 38) : dec (c :: t) = c :: dec t := by
  unfold dec
  rw [List.length_cons, decF, if_neg h]
theorem dec_ref (t : List UInt8) (h : 0 < (one (38 :: t)).2) : dec (38 :: t) = encodeRune (one (38 :: t)).1 ++ dec ((38 :: t).drop (one (38 :: t)).2) := by
  unfold dec
  rw [List.length_cons, decF, if_pos rfl, if_pos h, decF_fuel _ ((38 :: t).drop (one (38 :: t)).2).length _ (by rw [List.length_drop, List.length_cons]; omega) (Nat.le_refl _)]
theorem dec_amp (t : List UInt8) (h : ¬ 0 < (one (38 :: t)).2) : dec (38 :: t) = 38 :: dec t := by
  unfold dec
  rw [List.length_cons, decF, if_pos rfl, if_neg h]
theorem dec_plain (p t : List UInt8) (h : ∀ c ∈ p, c ≠ 38) : dec (p ++ t) = p ++ dec t := by
  induction p with
  | nil => rfl
  | cons c p ih => rw [List.cons_append, dec_other _ _ (h c (by simp)), ih (fun x hx => h x (by simp [hx]))]; rfl
theorem dec_length (l : List UInt8) : (dec l).length ≤ 4 * l.length := by
  suffices h : ∀ n (l : List UInt8), l.length ≤ n → (dec l).length ≤ 4 * l.length from h l.length l (Nat.le_refl _)
  intro n
  induction n with
  | zero =>
    intro l hl
    have : l = [] := List.eq_nil_of_length_eq_zero (by omega)
    subst this
    simp [dec_nil]
  | succ n ih =>
    intro l hl
    rcases l with _ | ⟨c, t⟩
    · simp [dec_nil]
    · simp only [List.length_cons] at hl
      by_cases hc : c = 38
      · subst hc
        by_cases h0 : 0 < (one (38 :: t)).2
        · rw [dec_ref t h0, List.length_append]
          have h1 := encodeRune_length (one (38 :: t)).1
          have h2 := ih ((38 :: t).drop (one (38 :: t)).2) (by rw [List.length_drop, List.length_cons]; omega)
          have h3 := one_le (38 :: t)
          rw [List.length_drop] at h2
          simp only [List.length_cons] at *
          omega
        · rw [dec_amp t h0]
          have := ih t (by omega)
          simp only [List.length_cons]; omega
      · rw [dec_other c t hc]
        have := ih t (by omega)
        simp only [List.length_cons]; omega

/-- a text written -/
def escB (value : Bool) (c : UInt8) : List UInt8 :=
  if c = 38 then [38, 97, 109, 112, 59] else if c = 60 then [38, 108, 116, 59] else if c = 62 then [38, 103, 116, 59] else if c = 34 ∧ value = true then [38, 113, 117, 111, 116, 59] else [c]
def esc (value : Bool) (l : List UInt8) : List UInt8 := l.flatMap (escB value)
theorem esc_append (v : Bool) (a b : List UInt8) : esc v (a ++ b) = esc v a ++ esc v b := by simp [esc]
theorem escB_length (v : Bool) (c : UInt8) : 1 ≤ (escB v c).length ∧ (escB v c).length ≤ 6 := by
  unfold escB
  repeat' split
  all_goals simp
theorem esc_length (v : Bool) (l : List UInt8) : l.length ≤ (esc v l).length ∧ (esc v l).length ≤ 6 * l.length := by
  induction l with
  | nil => simp [esc]
  | cons c l ih =>
    have := escB_length v c
    have e : esc v (c :: l) = escB v c ++ esc v l := rfl
    rw [e, List.length_append, List.length_cons]
    omega
theorem one_amp (t : List UInt8) : one (38 :: 97 :: 109 :: 112 :: 59 :: t) = (38, 5) := rfl
theorem one_lt (t : List UInt8) : one (38 :: 108 :: 116 :: 59 :: t) = (60, 4) := rfl
theorem one_gt (t : List UInt8) : one (38 :: 103 :: 116 :: 59 :: t) = (62, 4) := rfl
theorem one_quot (t : List UInt8) : one (38 :: 113 :: 117 :: 111 :: 116 :: 59 :: t) = (34, 6) := rfl
/-- what is written is decoded as it was -/
theorem dec_esc (v : Bool) (l t : List UInt8) : dec (esc v l ++ t) = l ++ dec t := by
  induction l with
  | nil => rfl
  | cons c l ih =>
    have e : esc v (c :: l) = escB v c ++ esc v l := rfl
    rw [e, List.append_assoc]
    have e2 : c :: l ++ dec t = c :: (l ++ dec t) := rfl
    rw [e2, ← ih]
    generalize esc v l ++ t = s
    unfold escB
    by_cases h1 : c = 38
    · rw [if_pos h1]
      have hd := dec_ref (97 :: 109 :: 112 :: 59 :: s) (by rw [one_amp]; decide)
      rw [one_amp] at hd
      subst h1
      exact hd
    · rw [if_neg h1]
      by_cases h2 : c = 60
      · rw [if_pos h2]
        have hd := dec_ref (108 :: 116 :: 59 :: s) (by rw [one_lt]; decide)
        rw [one_lt] at hd
        subst h2
        exact hd
      · rw [if_neg h2]
        by_cases h3 : c = 62
        · rw [if_pos h3]
          have hd := dec_ref (103 :: 116 :: 59 :: s) (by rw [one_gt]; decide)
          rw [one_gt] at hd
          subst h3
          exact hd
        · rw [if_neg h3]
          by_cases h4 : c = 34 ∧ v = true
          · rw [if_pos h4]
            have hd := dec_ref (113 :: 117 :: 111 :: 116 :: 59 :: s) (by rw [one_quot]; decide)
            rw [one_quot] at hd
            rw [h4.1]
            exact hd
          · rw [if_neg h4]
            exact dec_other c s h1
theorem dec_esc_self (v : Bool) (l : List UInt8) : dec (esc v l) = l := by
  have := dec_esc v l []
  rwa [List.append_nil, dec_nil, List.append_nil] at this
theorem escB_bare (v : Bool) (c : UInt8) : ∀ x ∈ escB v c, x ≠ 60 ∧ x ≠ 62 ∧ (v = true → x ≠ 34) := by
  intro x hx
  unfold escB at hx
  by_cases h1 : c = 38
  · rw [if_pos h1] at hx; revert x; cases v <;> decide
  · rw [if_neg h1] at hx
    by_cases h2 : c = 60
    · rw [if_pos h2] at hx; revert x; cases v <;> decide
    · rw [if_neg h2] at hx
      by_cases h3 : c = 62
      · rw [if_pos h3] at hx; revert x; cases v <;> decide
      · rw [if_neg h3] at hx
        by_cases h4 : c = 34 ∧ v = true
        · rw [if_pos h4] at hx; revert x; cases v <;> decide
        · rw [if_neg h4, List.mem_singleton] at hx
          subst hx
          exact ⟨h2, h3, fun hv e => h4 ⟨e, hv⟩⟩
theorem esc_bare (v : Bool) (l : List UInt8) : ∀ x ∈ esc v l, x ≠ 60 ∧ x ≠ 62 ∧ (v = true → x ≠ 34) := by
  intro x hx
  obtain ⟨c, _, hc⟩ := List.mem_flatMap.1 hx
  exact escB_bare v c x hc
end Go.Proofs.Ytbipdnnalhdoaaa
