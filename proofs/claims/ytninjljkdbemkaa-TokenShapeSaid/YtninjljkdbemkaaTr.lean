/- Plain: of a right text the tokens have their shape. -/
import Derived.Test.YtninjljkdbemkaaTq
namespace Go.Proofs.Ytninjljkdbemkaa

def AtsOk (acc : List Atr) : Prop := (∀ a ∈ acc, attrdL a.1 = true) ∧ ∀ a ∈ acc, valL acc a.1 = some a.2
theorem AtsOk.nil : AtsOk [] := ⟨(fun _ h => nomatch h), (fun _ h => nomatch h)⟩
theorem valL_keep (acc : List Atr) (a : Atr) (k v : List UInt8) (h : valL acc k = some v) : valL (acc ++ [a]) k = some v := by
  induction acc with
  | nil => simp [valL] at h
  | cons b acc ih =>
    simp only [List.cons_append, valL] at h ⊢
    cases hb : b.1 == k
    · rw [hb] at h; exact ih h
    · rw [hb] at h; exact h
theorem valL_last (acc : List Atr) (a : Atr) (h : valL acc a.1 = none) : valL (acc ++ [a]) a.1 = some a.2 := by
  induction acc with
  | nil => simp [valL]
  | cons b acc ih =>
    simp only [List.cons_append, valL] at h ⊢
    cases hb : b.1 == a.1
    · rw [hb] at h; exact ih h
    · rw [hb] at h; cases h
theorem AtsOk.push {acc : List Atr} (h : AtsOk acc) {a : Atr} (ha : attrdL a.1 = true) : AtsOk (if (valL acc a.1).isSome then acc else acc ++ [a]) := by
  cases hv : valL acc a.1 with
  | some v => exact h
  | none =>
    refine ⟨fun b hb => ?_, fun b hb => ?_⟩
    · simp only [Option.isSome_none, Bool.false_eq_true, if_false, List.mem_append, List.mem_singleton] at hb
      rcases hb with hb | rfl
      · exact h.1 b hb
      · exact ha
    · simp only [Option.isSome_none, Bool.false_eq_true, if_false, List.mem_append, List.mem_singleton] at hb ⊢
      rcases hb with hb | rfl
      · exact valL_keep acc a b.1 b.2 (h.2 b hb)
      · exact valL_last acc b hv
theorem anB_stop {c : UInt8} (h : anB c = false) : c.toNat < 128 := by
  by_cases h1 : c.toNat < 128
  · exact h1
  · rw [anB_high c (by omega)] at h; cases h
theorem avB_stop {c : UInt8} (h : avB c = false) : c.toNat < 128 := by
  by_cases h1 : c.toNat < 128
  · exact h1
  · rw [avB_high c (by omega)] at h; cases h
theorem blk_low {c : UInt8} (h : blk c = true) : c.toNat < 128 := by
  by_cases h1 : c.toNat < 128
  · exact h1
  · rw [blk_high c (by omega)] at h; cases h
theorem skB_low {c : UInt8} (h : skB c = true) : c.toNat < 128 := by
  by_cases h1 : c.toNat < 128
  · exact h1
  · rw [skB_high c (by omega)] at h; cases h
theorem nmB_low {c : UInt8} (h : nmB c = true) : c.toNat < 128 := by
  by_cases h1 : c.toNat < 128
  · exact h1
  · rw [nmB_high c (by omega)] at h; cases h
theorem past_end {l : List UInt8} {n : Nat} (h : l.length ≤ n) : CutAt l n := .inl fun c hc => by
  have := (List.getElem?_eq_some_iff.1 hc).1
  omega
/-- an attribute's end -/
theorem atL_cut (l : List UInt8) : CutAt l (atL l).2 := by
  obtain ⟨i, hi⟩ : ∃ i, i = spanL anB l := ⟨_, rfl⟩
  obtain ⟨j, hj⟩ : ∃ j, j = i + spanL blk (l.drop i) := ⟨_, rfl⟩
  have hil : i ≤ l.length := by rw [hi]; exact spanL_le _ _
  have hjl : j ≤ l.length := by
    have := spanL_le blk (l.drop i)
    rw [List.length_drop] at this
    omega
  by_cases hj2 : l.length ≤ j
  · rw [atL_1 hi hj hj2]; exact past_end hj2
  · have hj3 : j < l.length := by omega
    by_cases hc : l[j].toNat = 61
    · obtain ⟨k, hk⟩ : ∃ k, k = j + 1 + spanL blk (l.drop (j + 1)) := ⟨_, rfl⟩
      by_cases hk2 : l.length ≤ k
      · rw [atL_3 hi hj hk hj3 hc hk2]; exact past_end hk2
      · have hk3 : k < l.length := by omega
        obtain ⟨q, hq⟩ : ∃ q, l[k] = q := ⟨_, rfl⟩
        by_cases hqq : q.toNat = 34 ∨ q.toNat = 39
        · obtain ⟨m, hm⟩ : ∃ m, m = spanL (noq q) (l.drop (k + 1)) := ⟨_, rfl⟩
          have hml := spanL_le (noq q) (l.drop (k + 1))
          rw [List.length_drop] at hml
          rw [atL_4 hi hj hk hj3 hc hk3 hq hqq hm]
          by_cases he : k + 1 + m = l.length
          · rw [if_pos he]; exact past_end (Nat.le_refl _)
          · rw [if_neg he]
            have hlt : k + 1 + m < l.length := by omega
            have hst := spanL_stop (noq q) (l.drop (k + 1)) l[k + 1 + m] (by rw [← hm, List.getElem?_drop, List.getElem?_eq_getElem hlt])
            refine .inr ⟨l[k + 1 + m], by simp only []; omega, ?_, ?_⟩
            · simp only [Nat.add_sub_cancel]; exact List.getElem?_eq_getElem hlt
            · simp only [noq, bne_eq_false_iff_eq] at hst
              omega
        · obtain ⟨m, hm⟩ : ∃ m, m = spanL avB (l.drop k) := ⟨_, rfl⟩
          rw [atL_5 hi hj hk hj3 hc hk3 hq hqq hm]
          refine .inl fun c hc => ?_
          apply avB_stop
          apply spanL_stop avB (l.drop k)
          rw [← hm, List.getElem?_drop]
          exact hc
    · rw [atL_2 hi hj hj3 hc]
      by_cases hb : spanL blk (l.drop i) = 0
      · refine .inl fun c hc => ?_
        apply anB_stop
        apply spanL_stop anB l
        rw [← hi, ← hc]
        simp only []
        rw [hj, hb]; rfl
      · have hlt : j - 1 < l.length := by omega
        refine .inr ⟨l[j - 1], by simp only []; omega, List.getElem?_eq_getElem hlt, ?_⟩
        apply blk_low
        apply spanL_take blk (l.drop i)
        have h1 : (l.drop i)[spanL blk (l.drop i) - 1]? = some l[j - 1] := by
          rw [List.getElem?_drop, ← List.getElem?_eq_getElem hlt]
          congr 1; omega
        refine List.mem_of_getElem? (i := spanL blk (l.drop i) - 1) ?_
        rw [List.getElem?_take, if_pos (by omega)]
        exact h1
theorem skip_right {l : List UInt8} {i j : Nat} (h : isRight (l.drop i) = true) (hj : j = i + spanL skB (l.drop i)) : isRight (l.drop j) = true := by
  rw [hj, ← List.drop_drop]
  exact isRight_drop _ _ h (fun c hc => skB_low (spanL_take skB _ c hc))
theorem begF_shape : ∀ (f : Nat) (l : List UInt8) (i : Nat) (acc r : List Atr) (n : Nat), i ≤ l.length → isRight (l.drop i) = true → AtsOk acc → begF f l i acc = some (r, n) → AtsOk r ∧ 0 < n ∧ l[n - 1]? = some 62
  | 0, _, _, _, _, _, _, _, _, h => by simp [begF] at h
  | f + 1, l, i, acc, r, n, hil, hri, hacc, h => by
    obtain ⟨j, hj⟩ : ∃ j, j = i + spanL skB (l.drop i) := ⟨_, rfl⟩
    by_cases h1 : l.length ≤ j
    · rw [begF_end hj h1] at h; cases h
    · have h2 : j < l.length := by omega
      by_cases hc : l[j].toNat = 62
      · rw [begF_stop hj h2 hc] at h
        injection h with h
        injection h with h3 h4
        subst h3; subst h4
        refine ⟨hacc, by omega, ?_⟩
        rw [Nat.add_sub_cancel, List.getElem?_eq_getElem h2]
        congr 1
        exact UInt8.toNat_inj.1 hc
      · have hrj := skip_right hri hj
        obtain ⟨h3, h4⟩ := atL_next hj h2 hc
        rw [begF_go hj h2 hc] at h
        have hx0 : 0 < (l.drop j).length := by rw [List.length_drop]; omega
        have hhd : anB (l.drop j)[0] = true := by
          have e0 : (l.drop j)[0] = l[j] := by simp
          have hs : skB l[j] = false := by
            apply spanL_stop skB (l.drop i)
            rw [List.getElem?_drop, ← hj, List.getElem?_eq_getElem h2]
          rw [e0]
          simp only [skB, Bool.or_eq_false_iff, beq_eq_false_iff_ne, ne_eq] at hs
          simp only [anB, hs.1, Bool.not_false, Bool.true_and, Bool.and_eq_true, bne_iff_ne]
          exact ⟨hs.2.1, hc, hs.2.2⟩
        have hnm : attrdL (atL (l.drop j)).1.1 = true := by
          rw [atL_name]
          refine low_attrd (right_cut hrj (spanL_le _ _) (.inl fun c hc => anB_stop (spanL_stop anB _ c hc))).1 (fun c hc => spanL_take anB _ c hc) ?_
          intro e
          have h5 := congrArg List.length e
          rw [List.length_take, List.length_nil] at h5
          have h6 : 1 ≤ spanL anB (l.drop j) := by
            cases hd : l.drop j with
            | nil => rw [hd] at hx0; simp at hx0
            | cons c t =>
              simp only [hd, List.getElem_cons_zero] at hhd
              simp only [spanL, hhd, if_true]
              omega
          omega
        refine begF_shape f l _ _ r n h4 ?_ (hacc.push hnm) h
        rw [← List.drop_drop]
        exact (right_cut hrj (by rw [List.length_drop]; omega) (atL_cut _)).2

/-- a name, with small letters -/
theorem nm_low (c : UInt8) (h : nmB c = true) : nameB (lower c) = true := by
  have h1 := lower_int c
  have := c.toNat_lt
  simp only [nmB, lett, Bool.or_eq_true, Bool.and_eq_true, decide_eq_true_eq, beq_iff_eq] at h
  simp only [nameB, smallB, Bool.or_eq_true, Bool.and_eq_true, decide_eq_true_eq, beq_iff_eq]
  by_cases h2 : (lower c).toNat = 45
  · right; exact UInt8.toNat_inj.1 h2
  · left
    split at h1 <;> omega
theorem lett_low (c : UInt8) (h : lett c = true) : smallB (lower c) = true := by
  have h1 := lower_int c
  have := c.toNat_lt
  simp only [lett, Bool.or_eq_true, Bool.and_eq_true, decide_eq_true_eq] at h
  simp only [smallB, Bool.and_eq_true, decide_eq_true_eq]
  split at h1 <;> omega
theorem lett_nm (c : UInt8) (h : lett c = true) : nmB c = true := by simp [nmB, h]
theorem title_named {l : List UInt8} (h : titleL l ≠ 0) : namedL (lowL (l.take (titleL l))) = true := by
  cases l with
  | nil => simp [titleL] at h
  | cons c t =>
    have hc : lett c = true := by
      cases hc : lett c with
      | true => rfl
      | false => simp [titleL, hc] at h
    have ht : titleL (c :: t) = 1 + spanL nmB t := by simp [titleL, hc, spanL, lett_nm c hc]
    rw [ht, show 1 + spanL nmB t = spanL nmB t + 1 by omega, List.take_succ_cons]
    simp only [lowL, List.map_cons, namedL, lett_low c hc, Bool.true_and, List.all_eq_true]
    intro x hx
    rcases List.mem_cons.1 hx with rfl | hx
    · exact nm_low c (lett_nm c hc)
    · obtain ⟨d, hd, rfl⟩ := List.mem_map.1 hx
      exact nm_low d (spanL_take nmB t d hd)
/-- the shape of a token -/
def ShT (t : Tk) : Prop := (t.kind = 1 ∧ namedL t.name = true ∧ t.text = [] ∧ AtsOk t.attrs) ∨ (t.kind = 2 ∧ namedL t.name = true ∧ t.text = [] ∧ t.attrs = []) ∨
  (t.kind = 3 ∧ t.name = [] ∧ t.attrs = [] ∧ t.text ≠ []) ∨ (t.kind = 4 ∧ t.name = [] ∧ t.attrs = [])
theorem occ_last {l sub : List UInt8} {i : Nat} (h : 0 ≤ Lib.index l sub) (hi : (Lib.index l sub).toNat = i) (hs : 0 < sub.length) : l[i + sub.length - 1]? = sub[sub.length - 1]? := by
  rcases Lib.index_spec l sub with ⟨h1, _⟩ | ⟨j, h1, hj, ho, _⟩
  · omega
  · obtain rfl : j = i := by omega
    obtain ⟨t, ht⟩ := List.isPrefixOf_iff_prefix.1 ho
    have : (l.drop j)[sub.length - 1]? = sub[sub.length - 1]? := by
      rw [← ht, List.getElem?_append_left (by omega)]
    rw [← this, List.getElem?_drop]
    congr 1; omega
theorem cmtL_shape {l : List UInt8} (hr : isRight l = true) (h2 : 2 ≤ l.length) : ShT (cmtL l).1 ∧ isRight (l.drop (cmtL l).2) = true := by
  have hb := cmtL_le h2
  revert hb
  unfold cmtL
  split
  · split
    · intro _; exact ⟨.inr (.inr (.inr ⟨rfl, rfl, rfl⟩)), right_end hr⟩
    · rename_i hp hn
      intro hb
      refine ⟨.inr (.inr (.inr ⟨rfl, rfl, rfl⟩)), ?_⟩
      simp only [] at hb ⊢
      refine (right_cut hr hb.2 (.inr ⟨62, by omega, ?_, by decide⟩)).2
      have := occ_last (l := l.drop 4) (sub := [45, 45, 62]) (by omega) rfl (by decide)
      rw [List.getElem?_drop] at this
      simp only [List.length_cons, List.length_nil] at this
      rw [show 4 + (Lib.index (List.drop 4 l) [45, 45, 62]).toNat + 3 - 1 = 4 + ((Lib.index (List.drop 4 l) [45, 45, 62]).toNat + (0 + 1 + 1 + 1) - 1) by omega, this]
      rfl
  · split
    · intro _; exact ⟨.inr (.inr (.inr ⟨rfl, rfl, rfl⟩)), right_end hr⟩
    · rename_i hp hn
      intro hb
      refine ⟨.inr (.inr (.inr ⟨rfl, rfl, rfl⟩)), ?_⟩
      simp only [] at hb ⊢
      refine (right_cut hr hb.2 (.inr ⟨62, by omega, ?_, by decide⟩)).2
      have := occ_last (l := l.drop 2) (sub := [62]) (by omega) rfl (by decide)
      rw [List.getElem?_drop] at this
      simp only [List.length_cons, List.length_nil] at this
      rw [show 2 + (Lib.index (List.drop 2 l) [62]).toNat + 1 - 1 = 2 + ((Lib.index (List.drop 2 l) [62]).toNat + (0 + 1) - 1) by omega, this]
      rfl
/-- a tag, or none -/
def ShN (t : Tk) : Prop := t.kind = 0 ∨ ShT t
theorem endL_shape {l : List UInt8} (hr : isRight l = true) (h2 : 2 ≤ l.length) : ShN (endL l).1 ∧ isRight (l.drop (endL l).2) = true := by
  unfold endL
  by_cases ht : titleL (l.drop 2) = 0
  · rw [if_pos ht]
    by_cases hp : Lib.hasPrefix l [60, 47, 62] = true
    · rw [if_pos hp]
      refine ⟨.inl rfl, ?_⟩
      simp only []
      have hl := hasPrefix_len hp
      simp only [List.length_cons, List.length_nil] at hl
      obtain ⟨t, e⟩ := List.isPrefixOf_iff_prefix.1 hp
      exact (right_cut hr hl (.inr ⟨62, by omega, by rw [← e]; rfl, by decide⟩)).2
    · rw [if_neg hp]
      have := cmtL_shape hr h2
      exact ⟨.inr this.1, this.2⟩
  · rw [if_neg ht]
    by_cases hj : Lib.indexByte l 62 < 0
    · rw [if_pos hj]; exact ⟨.inl rfl, right_end hr⟩
    · rw [if_neg hj]
      obtain ⟨j, hje⟩ : ∃ j : Nat, Lib.indexByte l 62 = j := ⟨_, (Int.toNat_of_nonneg (by omega)).symm⟩
      have h62 := (Lib.indexByte_some hje).1
      have hjl : j < l.length := (List.getElem?_eq_some_iff.1 h62).1
      refine ⟨.inr (.inr (.inl ⟨rfl, title_named ht, rfl, rfl⟩)), ?_⟩
      rw [hje]
      simp only [Int.toNat_natCast]
      exact (right_cut hr (by omega) (.inr ⟨62, by omega, by rw [Nat.add_sub_cancel]; exact h62, by decide⟩)).2
theorem title_take (l : List UInt8) : ∀ c ∈ l.take (titleL l), c.toNat < 128 := by
  intro c hc
  cases l with
  | nil => simp at hc
  | cons d t =>
    simp only [titleL] at hc
    split at hc
    · exact nmB_low (spanL_take nmB _ c hc)
    · simp at hc
theorem begL_shape {l : List UInt8} (hr : isRight l = true) (h2 : 2 ≤ l.length) (h0 : l[0]? = some 60) (hn : titleL (l.drop 1) ≠ 0) : ShN (begL l).1 ∧ isRight (l.drop (begL l).2) = true := by
  have h1 : isRight (l.drop 1) = true := (right_cut hr (by omega) (.inr ⟨60, by omega, h0, by decide⟩)).2
  have hi : isRight (l.drop (1 + titleL (l.drop 1))) = true := by
    rw [← List.drop_drop]
    exact isRight_drop _ _ h1 (title_take _)
  have ht := titleL_le (l.drop 1)
  rw [List.length_drop] at ht
  unfold begL
  cases hb : begF (l.length + 1) l (1 + titleL (l.drop 1)) [] with
  | none => exact ⟨.inl rfl, right_end hr⟩
  | some p =>
    obtain ⟨r, n⟩ := p
    obtain ⟨ha, hp, h62⟩ := begF_shape _ l _ [] r n (by omega) hi AtsOk.nil hb
    have hnl := begF_le _ l _ [] r n (by omega) hb
    exact ⟨.inr (.inl ⟨rfl, title_named hn, rfl, ha⟩), (right_cut hr hnl.2 (.inr ⟨62, hp, h62, by decide⟩)).2⟩
theorem tagL_shape {l : List UInt8} (hr : isRight l = true) (h : startsL l = true) : ShN (tagL l).1 ∧ isRight (l.drop (tagL l).2) = true := by
  have h2 := starts_two h
  have h1 : l[1]? = some l[1] := List.getElem?_eq_getElem (by omega)
  have h0 := startsL_head h
  have hst : l[1].toNat = 47 ∨ l[1].toNat = 33 ∨ l[1].toNat = 63 ∨ lett l[1] = true := by
    match l, h with
    | a :: c :: t, h =>
      simp only [startsL, Bool.and_eq_true, Bool.or_eq_true, beq_iff_eq] at h
      exact h.2
  by_cases hc : l[1].toNat = 47
  · rw [tag_2 h h1 hc]; exact endL_shape hr h2
  · by_cases hc2 : l[1].toNat = 33 ∨ l[1].toNat = 63
    · rw [tag_3 h h1 hc2]
      have := cmtL_shape hr h2
      exact ⟨.inr this.1, this.2⟩
    · rw [tag_4 h h1 hc hc2]
      refine begL_shape hr h2 h0 ?_
      have hl : lett l[1] = true := by
        rcases hst with h | h | h | h
        · exact absurd h hc
        · exact absurd (.inl h) hc2
        · exact absurd (.inr h) hc2
        · exact h
      have hd : l.drop 1 = l[1] :: l.drop 2 := List.drop_eq_getElem_cons (by omega)
      rw [hd]
      simp only [titleL, hl, if_true, spanL, lett_nm _ hl]
      omega
theorem charL_at : ∀ (l : List UInt8) (c : UInt8), l[charL l]? = some c → c = 60
  | [], c, h => by simp at h
  | d :: t, c, h => by
    simp only [charL] at h
    split at h
    · rename_i hs
      have := startsL_head hs
      rw [this] at h
      injection h with h
      exact h.symm
    · rw [show 1 + charL t = charL t + 1 by omega, List.getElem?_cons_succ] at h
      exact charL_at t c h
theorem ends_at (name : List UInt8) : ∀ (l : List UInt8), 0 ≤ endsL l name → l[(endsL l name).toNat]? = some 60
  | [], h => by simp [endsL] at h
  | c :: t, h => by
    simp only [endsL] at h ⊢
    split
    · rename_i he
      have := endsAt_two he
      obtain ⟨r, hr⟩ := List.isPrefixOf_iff_prefix.1 this
      simp only [List.drop_zero, List.cons_append, List.nil_append] at hr
      injection hr with hr1 _
      rw [← hr1]; rfl
    · rename_i he
      rw [if_neg he] at h
      split
      · rename_i h1; rw [if_pos h1] at h; omega
      · rename_i h1
        have ih := ends_at name t (by omega)
        rw [show (endsL t name + 1).toNat = (endsL t name).toNat + 1 by omega, List.getElem?_cons_succ]
        exact ih
theorem dec_ne {l : List UInt8} (h : l ≠ []) : dec l ≠ [] := by
  cases l with
  | nil => exact absurd rfl h
  | cons c t =>
    by_cases hc : c = 38
    · subst hc
      by_cases ho : 0 < (one (38 :: t)).2
      · rw [dec_ref t ho]; exact encodeRune_ne _ _
      · rw [dec_amp t ho]; simp
    · rw [dec_other c t hc]; simp
theorem charTk_shape {x : List UInt8} (h : x ≠ []) : ShT (charTk x) := .inr (.inr (.inl ⟨rfl, rfl, rfl, h⟩))
theorem take_ne {l : List UInt8} {n : Nat} (hl : l ≠ []) (hn : 0 < n) : l.take n ≠ [] := by
  intro e
  have := congrArg List.length e
  have h2 := List.length_pos_iff.2 hl
  rw [List.length_take, List.length_nil] at this
  omega
theorem tokRound_shape {l : List UInt8} (hr : isRight l = true) (h : l ≠ []) : (∀ t ∈ (tokRound l).1, ShT t) ∧ isRight (tokRound l).2 = true := by
  unfold tokRound
  by_cases h0 : (tagL l).2 = 0
  · rw [if_pos h0]
    have hs := tag_zero h0
    have h1 := charL_go hs h
    refine ⟨fun t ht => ?_, ?_⟩
    · rw [List.mem_singleton] at ht
      subst ht
      exact charTk_shape (dec_ne (take_ne h (by omega)))
    · exact (right_cut hr (charL_le l) (.inl fun c hc => by rw [charL_at l c hc]; decide)).2
  · rw [if_neg h0]
    obtain ⟨h1, h2⟩ := tagL_shape hr (tag_nonzero h0)
    by_cases hk : (tagL l).1.kind = 0
    · rw [if_pos hk]; exact ⟨(fun _ h => nomatch h), h2⟩
    · rw [if_neg hk]
      have h3 : ShT (tagL l).1 := by
        rcases h1 with h1 | h1
        · exact absurd h1 hk
        · exact h1
      split
      · refine ⟨fun t ht => ?_, ?_⟩
        · rcases List.mem_cons.1 ht with rfl | ht
          · exact h3
          · split at ht
            · rename_i hpos
              rw [List.mem_singleton] at ht
              subst ht
              refine charTk_shape (take_ne ?_ hpos)
              intro e
              have := rawN_le (l.drop (tagL l).2) (tagL l).1.name
              rw [e] at this hpos
              simp only [List.length_nil] at this
              omega
            · cases ht
        · generalize l.drop (tagL l).2 = m at h2 ⊢
          unfold rawN
          split
          · exact right_end h2
          · rename_i he
            have hat := ends_at (tagL l).1.name m (by omega)
            exact (right_cut h2 (Nat.le_of_lt (List.getElem?_eq_some_iff.1 hat).1) (.inl fun c hc => by rw [hat] at hc; injection hc with hc; rw [← hc]; decide)).2
      · exact ⟨fun t ht => by rw [List.mem_singleton] at ht; subst ht; exact h3, h2⟩
theorem toksF_shape : ∀ (n : Nat) (l : List UInt8), isRight l = true → ∀ t ∈ toksF n l, ShT t
  | 0, l, _, t, ht => by simp [toksF] at ht
  | n + 1, l, hr, t, ht => by
    simp only [toksF] at ht
    cases l with
    | nil => simp at ht
    | cons c s =>
      simp only [List.isEmpty_cons, Bool.false_eq_true, if_false] at ht
      obtain ⟨h1, h2⟩ := tokRound_shape hr (l := c :: s) (by simp)
      rcases List.mem_append.1 ht with ht | ht
      · exact h1 t ht
      · exact toksF_shape n _ h2 t ht
/-- of a right text each token has its shape -/
theorem toksL_shape {l : List UInt8} (h : isRight l = true) : ∀ t ∈ toksL l, ShT t := toksF_shape _ l h
end Go.Proofs.Ytninjljkdbemkaa
