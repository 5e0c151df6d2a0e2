/- Plain: how many tokens, names and attributes there are at most. -/
import Derived.Test.YtninjljkdbemkaaTr
namespace Go.Proofs.Ytninjljkdbemkaa

theorem begF_bd : ∀ (f : Nat) (l : List UInt8) (i : Nat) (acc r : List Atr) (n : Nat), i ≤ l.length → acc.length ≤ i → (∀ a ∈ acc, a.1.length ≤ l.length) → begF f l i acc = some (r, n) → r.length ≤ l.length ∧ ∀ a ∈ r, a.1.length ≤ l.length
  | 0, _, _, _, _, _, _, _, _, h => by simp [begF] at h
  | f + 1, l, i, acc, r, n, hil, ha, hb, h => by
    obtain ⟨j, hj⟩ : ∃ j, j = i + spanL skB (l.drop i) := ⟨_, rfl⟩
    by_cases h1 : l.length ≤ j
    · rw [begF_end hj h1] at h; cases h
    · have h2 : j < l.length := by omega
      by_cases hc : l[j].toNat = 62
      · rw [begF_stop hj h2 hc] at h
        injection h with h
        injection h with h3 h4
        subst h3
        exact ⟨by omega, hb⟩
      · obtain ⟨h3, h4⟩ := atL_next hj h2 hc
        rw [begF_go hj h2 hc] at h
        have hnl := atL_name_le (l.drop j)
        rw [List.length_drop] at hnl
        refine begF_bd f l _ _ r n h4 ?_ ?_ h
        · split
          · omega
          · rw [List.length_append]; simp; omega
        · split
          · exact hb
          · intro a hm
            rcases List.mem_append.1 hm with hm | hm
            · exact hb a hm
            · rw [List.mem_singleton] at hm; subst hm; omega
def Bd (B : Nat) (t : Tk) : Prop := t.name.length ≤ B ∧ t.attrs.length ≤ B ∧ ∀ a ∈ t.attrs, a.1.length ≤ B
theorem Bd.more {B B' : Nat} {t : Tk} (h : Bd B t) (hB : B ≤ B') : Bd B' t := ⟨Nat.le_trans h.1 hB, Nat.le_trans h.2.1 hB, fun a ha => Nat.le_trans (h.2.2 a ha) hB⟩
theorem Bd.none {B : Nat} {t : Tk} (h : t.name.length ≤ B) (ha : t.attrs = []) : Bd B t := ⟨h, by rw [ha]; exact Nat.zero_le _, by rw [ha]; exact fun _ h => nomatch h⟩
theorem begL_bd (l : List UInt8) (h2 : 2 ≤ l.length) : Bd l.length (begL l).1 := by
  have hn := begL_name_le l
  refine ⟨hn, ?_⟩
  have ht := titleL_le (l.drop 1)
  rw [List.length_drop] at ht
  unfold begL
  cases hb : begF (l.length + 1) l (1 + titleL (l.drop 1)) [] with
  | none => exact ⟨Nat.zero_le _, fun _ h => nomatch h⟩
  | some p =>
    obtain ⟨r, n⟩ := p
    exact begF_bd _ l _ [] r n (by omega) (Nat.zero_le _) (fun _ h => nomatch h) hb
theorem tagL_bd (l : List UInt8) : Bd l.length (tagL l).1 := by
  cases h : startsL l with
  | false => rw [tag_1 h]; exact Bd.none (Nat.zero_le _) rfl
  | true =>
    have h2 := starts_two h
    have h1 : l[1]? = some l[1] := List.getElem?_eq_getElem (by omega)
    generalize l[1] = c at h1
    by_cases hc : c.toNat = 47
    · rw [tag_2 h h1 hc]; exact Bd.none (endL_name_le l) (endL_attrs l)
    · by_cases hc2 : c.toNat = 33 ∨ c.toNat = 63
      · rw [tag_3 h h1 hc2]; exact Bd.none (by rw [cmtL_name]; exact Nat.zero_le _) (cmtL_attrs l)
      · rw [tag_4 h h1 hc hc2]; exact begL_bd l h2
theorem tokRound_bd (l : List UInt8) : ∀ t ∈ (tokRound l).1, Bd l.length t := by
  intro t ht
  unfold tokRound at ht
  split at ht
  · rw [List.mem_singleton] at ht
    subst ht
    exact Bd.none (Nat.zero_le _) rfl
  · split at ht
    · cases ht
    · split at ht
      · rcases List.mem_cons.1 ht with rfl | ht
        · exact tagL_bd l
        · split at ht
          · rw [List.mem_singleton] at ht
            subst ht
            exact Bd.none (Nat.zero_le _) rfl
          · cases ht
      · rw [List.mem_singleton] at ht
        subst ht
        exact tagL_bd l
theorem toksF_bd : ∀ (n : Nat) (l : List UInt8), (∀ t ∈ toksF n l, Bd l.length t) ∧ (toksF n l).length ≤ 2 * l.length
  | 0, l => ⟨by simp [toksF], by simp [toksF]⟩
  | n + 1, l => by
    cases l with
    | nil => exact ⟨by simp [toksF], by simp [toksF]⟩
    | cons c s =>
      have hless := tokRound_less (l := c :: s) (by simp)
      obtain ⟨h1, h2⟩ := toksF_bd n (tokRound (c :: s)).2
      have hfew := tokRound_few (c :: s)
      simp only [toksF, List.isEmpty_cons, Bool.false_eq_true, if_false]
      refine ⟨fun t ht => ?_, ?_⟩
      · rcases List.mem_append.1 ht with ht | ht
        · exact tokRound_bd _ t ht
        · exact (h1 t ht).more (by omega)
      · rw [List.length_append]; omega
theorem toksL_bd (l : List UInt8) : (∀ t ∈ toksL l, Bd l.length t) ∧ (toksL l).length ≤ 2 * l.length := toksF_bd _ l
end Go.Proofs.Ytninjljkdbemkaa
