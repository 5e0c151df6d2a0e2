/- Plain: what is passed over in a beginning tag changes nothing. -/
import Derived.Test.YtninjljkdbemkaaTs
namespace Go.Proofs.Ytninjljkdbemkaa

theorem spanL_app {p : UInt8 → Bool} : ∀ (v t : List UInt8), (∀ c ∈ v, p c = true) → spanL p (v ++ t) = v.length + spanL p t
  | [], t, _ => by simp
  | c :: v, t, h => by
    have h1 : p c = true := h c (by simp)
    rw [List.cons_append, spanL, h1, if_pos rfl, spanL_app v t (fun x hx => h x (by simp [hx])), List.length_cons]
    omega

theorem toks_one (v : List UInt8) (hv : ∀ c ∈ v, c ≠ 34 ∧ c ≠ 39) : toksL ([60, 97, 32, 120, 61, 34] ++ (v ++ [34, 62])) = [⟨1, [97], [([120], dec v)], []⟩] := by
  obtain ⟨l, hl⟩ : ∃ l : List UInt8, l = [60, 97, 32, 120, 61, 34] ++ (v ++ [34, 62]) := ⟨_, rfl⟩
  have hlen : l.length = 6 + (v.length + 2) := by rw [hl]; simp; omega
  have hd : ∀ k, k ≤ 6 → l.drop k = ([60, 97, 32, 120, 61, 34] : List UInt8).drop k ++ (v ++ [34, 62]) := fun k hk => by rw [hl, List.drop_append_of_le_length (by simpa using hk)]
  have hat : atL (l.drop 3) = (([120], dec v), 4 + v.length) := by
    have h2 : spanL (noq 34) (v ++ [34, 62]) = v.length := by
      rw [spanL_app v _ (fun c hc => by
        simp only [noq, bne_iff_ne]
        intro e
        have := hv c hc
        have e2 : c = 34 := UInt8.toNat_inj.1 e
        exact (hv c hc).1 e2)]
      rfl
    rw [hd _ (by decide)]
    show atL ([120, 61, 34] ++ (v ++ [34, 62])) = _
    have e1 : ([120, 61, 34] ++ (v ++ [34, 62]) : List UInt8).drop (2 + 1) = v ++ [34, 62] := rfl
    rw [atL_4 (l := [120, 61, 34] ++ (v ++ [34, 62])) (i := 1) (j := 1) (k := 2) (m := v.length) (q := 34) rfl rfl rfl (by simp) (by rfl) (by simp) (by rfl) (by decide) (by rw [e1]; exact h2.symm)]
    rw [if_neg (by simp; omega)]
    rw [e1, List.take_left]
    refine Prod.ext rfl ?_
    show 2 + 1 + v.length + 1 = 4 + v.length
    omega
  have hdp : l.drop (7 + v.length) = [62] := by
    rw [hl, List.drop_append, List.drop_eq_nil_of_le (by simp; omega), List.nil_append, List.drop_append, List.drop_eq_nil_of_le (by simp; omega), List.nil_append]
    have : 7 + v.length - ([60, 97, 32, 120, 61, 34] : List UInt8).length - v.length = 1 := by simp; omega
    rw [this]; rfl
  have hbeg : begF (l.length + 1) l 2 [] = some ([([120], dec v)], l.length) := by
    have e0 : l.drop 2 = ([60, 97, 32, 120, 61, 34] : List UInt8).drop 2 ++ (v ++ [34, 62]) := hd _ (by decide)
    have hj : 3 = 2 + spanL skB (l.drop 2) := by rw [e0]; rfl
    have hlt : 3 < l.length := by omega
    have hc : l[3].toNat ≠ 62 := by
      have : l[3]? = some 120 := by rw [hl]; rfl
      rw [List.getElem?_eq_getElem hlt] at this
      injection this with this
      rw [this]; decide
    rw [begF_go hj hlt hc, hat]
    have hp : 7 + v.length + 0 = (3 + (4 + v.length)) + spanL skB (l.drop (3 + (4 + v.length))) := by
      rw [show 3 + (4 + v.length) = 7 + v.length by omega, hdp]; rfl
    obtain ⟨f, hf⟩ : ∃ f, l.length = f + 1 := ⟨l.length - 1, by omega⟩
    have hlt2 : 7 + v.length + 0 < l.length := by omega
    have hc2 : l[7 + v.length + 0].toNat = 62 := by
      have h3 : (l.drop (7 + v.length))[0]? = some 62 := by rw [hdp]; rfl
      rw [List.getElem?_drop, List.getElem?_eq_getElem hlt2] at h3
      injection h3 with h3
      rw [h3]; rfl
    rw [hf]
    simp only [valL, Option.isSome_none, Bool.false_eq_true, if_false, List.nil_append]
    rw [begF_stop hp hlt2 hc2, ← hf]
    simp only [Option.some.injEq, Prod.mk.injEq, true_and]
    omega
  have hst : startsL l = true := by rw [hl]; rfl
  have h1 : l[1]? = some 97 := by rw [hl]; rfl
  have htag : tagL l = (⟨1, [97], [([120], dec v)], []⟩, l.length) := by
    rw [tag_4 hst h1 (by decide) (by decide)]
    have ht : titleL (l.drop 1) = 1 := by rw [hd _ (by decide)]; rfl
    unfold begL
    rw [ht, hbeg]
    simp only []
    rw [hd _ (by decide)]
    rfl
  have hne : l ≠ [] := by
    intro e
    rw [e, List.length_nil] at hlen
    omega
  rw [← hl, toksL_round hne]
  have hr : tokRound l = ([⟨1, [97], [([120], dec v)], []⟩], []) := by
    unfold tokRound
    rw [htag]
    have hn0 : l.length ≠ 0 := by omega
    simp only [hn0, if_false]
    rw [if_neg (by decide), if_neg (by decide), List.drop_length]
  rw [hr, toksL_nil]
  rfl

theorem toks_two (v : List UInt8) (hv : ∀ c ∈ v, c ≠ 34 ∧ c ≠ 39) : toksL ([60, 65, 32, 10, 47, 32, 61, 32, 88, 9, 61, 32, 39] ++ (v ++ [39, 32, 47, 32, 62])) = [⟨1, [97], [([120], dec v)], []⟩] := by
  obtain ⟨l, hl⟩ : ∃ l : List UInt8, l = [60, 65, 32, 10, 47, 32, 61, 32, 88, 9, 61, 32, 39] ++ (v ++ [39, 32, 47, 32, 62]) := ⟨_, rfl⟩
  have hlen : l.length = 13 + (v.length + 5) := by rw [hl]; simp; omega
  have hd : ∀ k, k ≤ 13 → l.drop k = ([60, 65, 32, 10, 47, 32, 61, 32, 88, 9, 61, 32, 39] : List UInt8).drop k ++ (v ++ [39, 32, 47, 32, 62]) := fun k hk => by rw [hl, List.drop_append_of_le_length (by simpa using hk)]
  have hat : atL (l.drop 8) = (([120], dec v), 6 + v.length) := by
    have h2 : spanL (noq 39) (v ++ [39, 32, 47, 32, 62]) = v.length := by
      rw [spanL_app v _ (fun c hc => by
        simp only [noq, bne_iff_ne]
        intro e
        have := hv c hc
        have e2 : c = 39 := UInt8.toNat_inj.1 e
        exact (hv c hc).2 e2)]
      rfl
    rw [hd _ (by decide)]
    show atL ([88, 9, 61, 32, 39] ++ (v ++ [39, 32, 47, 32, 62])) = _
    have e1 : ([88, 9, 61, 32, 39] ++ (v ++ [39, 32, 47, 32, 62]) : List UInt8).drop (4 + 1) = v ++ [39, 32, 47, 32, 62] := rfl
    rw [atL_4 (l := [88, 9, 61, 32, 39] ++ (v ++ [39, 32, 47, 32, 62])) (i := 1) (j := 2) (k := 4) (m := v.length) (q := 39) rfl rfl rfl (by simp) (by rfl) (by simp) (by rfl) (by decide) (by rw [e1]; exact h2.symm)]
    rw [if_neg (by simp; omega)]
    rw [e1, List.take_left]
    refine Prod.ext rfl ?_
    show 4 + 1 + v.length + 1 = 6 + v.length
    omega
  have hdp : l.drop (14 + v.length) = [32, 47, 32, 62] := by
    rw [hl, List.drop_append, List.drop_eq_nil_of_le (by simp; omega), List.nil_append, List.drop_append, List.drop_eq_nil_of_le (by simp; omega), List.nil_append]
    have : 14 + v.length - ([60, 65, 32, 10, 47, 32, 61, 32, 88, 9, 61, 32, 39] : List UInt8).length - v.length = 1 := by simp; omega
    rw [this]; rfl
  have hbeg : begF (l.length + 1) l 2 [] = some ([([120], dec v)], l.length) := by
    have e0 : l.drop 2 = ([60, 65, 32, 10, 47, 32, 61, 32, 88, 9, 61, 32, 39] : List UInt8).drop 2 ++ (v ++ [39, 32, 47, 32, 62]) := hd _ (by decide)
    have hj : 8 = 2 + spanL skB (l.drop 2) := by rw [e0]; rfl
    have hlt : 8 < l.length := by omega
    have hc : l[8].toNat ≠ 62 := by
      have : l[8]? = some 88 := by rw [hl]; rfl
      rw [List.getElem?_eq_getElem hlt] at this
      injection this with this
      rw [this]; decide
    rw [begF_go hj hlt hc, hat]
    have hp : 14 + v.length + 3 = (8 + (6 + v.length)) + spanL skB (l.drop (8 + (6 + v.length))) := by
      rw [show 8 + (6 + v.length) = 14 + v.length by omega, hdp]; rfl
    obtain ⟨f, hf⟩ : ∃ f, l.length = f + 1 := ⟨l.length - 1, by omega⟩
    have hlt2 : 14 + v.length + 3 < l.length := by omega
    have hc2 : l[14 + v.length + 3].toNat = 62 := by
      have h3 : (l.drop (14 + v.length))[3]? = some 62 := by rw [hdp]; rfl
      rw [List.getElem?_drop, List.getElem?_eq_getElem hlt2] at h3
      injection h3 with h3
      rw [h3]; rfl
    rw [hf]
    simp only [valL, Option.isSome_none, Bool.false_eq_true, if_false, List.nil_append]
    rw [begF_stop hp hlt2 hc2, ← hf]
    simp only [Option.some.injEq, Prod.mk.injEq, true_and]
    omega
  have hst : startsL l = true := by rw [hl]; rfl
  have h1 : l[1]? = some 65 := by rw [hl]; rfl
  have htag : tagL l = (⟨1, [97], [([120], dec v)], []⟩, l.length) := by
    rw [tag_4 hst h1 (by decide) (by decide)]
    have ht : titleL (l.drop 1) = 1 := by rw [hd _ (by decide)]; rfl
    unfold begL
    rw [ht, hbeg]
    simp only []
    rw [hd _ (by decide)]
    rfl
  have hne : l ≠ [] := by
    intro e
    rw [e, List.length_nil] at hlen
    omega
  rw [← hl, toksL_round hne]
  have hr : tokRound l = ([⟨1, [97], [([120], dec v)], []⟩], []) := by
    unfold tokRound
    rw [htag]
    have hn0 : l.length ≠ 0 := by omega
    simp only [hn0, if_false]
    rw [if_neg (by decide), if_neg (by decide), List.drop_length]
  rw [hr, toksL_nil]
  rfl
end Go.Proofs.Ytninjljkdbemkaa
