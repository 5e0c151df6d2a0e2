/- Plain: how long the text of good nodes is. -/
import Derived.Test.YtninjljkdbemkaaG5p
namespace Go.Proofs.Ytninjljkdbemkaa

mutual
def cnt1 : Nd → Nat
  | .mk _ _ _ _ kids => 1 + cntL kids
def cntL : List Nd → Nat
  | [] => 0
  | n :: l => cnt1 n + cntL l
end
theorem cnt1_eq (n : Nd) : cnt1 n = 1 + cntL n.kids := by cases n; simp only [cnt1, Nd.kids]
mutual
theorem cut1_cnt : ∀ (n : Nd) (m : Nat), cnt1 (cut1 n m).1 + (cut1 n m).2 ≤ m + 1
  | .mk _ _ _ _ kids, m => by
    simp only [cut1, cnt1]
    have := cutL_cnt kids m
    omega
theorem cutL_cnt : ∀ (l : List Nd) (m : Nat), cntL (cutL l m).1 + (cutL l m).2 ≤ m
  | [], m => by simp [cutL, cntL]
  | n :: l, m => by
    simp only [cutL]
    split
    · simp only [cntL]
      have h1 := cut1_cnt n (m - 1)
      have h2 := cutL_cnt l (cut1 n (m - 1)).2
      omega
    · simp [cntL]
end
theorem wordL_length {l : List UInt8} (h : l.length ≤ 30) : (wordL l).length ≤ 30 := by
  unfold wordL
  split
  · exact h
  · have : ∀ x ∈ wordTab, x.length ≤ 30 := by decide
    rw [List.getD_eq_getElem?_getD]
    cases hx : wordTab[bytesum l % 10]? with
    | none => simp
    | some x => exact this x (List.mem_of_getElem? hx)
theorem atrnL_length {l : List UInt8} (h : l.length ≤ 30) : (atrnL l).length ≤ 30 := by
  unfold atrnL
  split
  · exact h
  · have : ∀ x ∈ atrTab, x.length ≤ 30 := by decide
    rw [List.getD_eq_getElem?_getD]
    cases hx : atrTab[l.length % 5]? with
    | none => simp
    | some x => exact this x (List.mem_of_getElem? hx)
theorem goodAt_all {P : Atr → Prop} {acc : List Atr} {a : Atr} (h : ∀ x ∈ acc, P x) (h2 : P (atrnL a.1, right a.2)) : ∀ x ∈ goodAt acc a, P x := by
  unfold goodAt
  split
  · exact h
  · intro x hx
    rcases List.mem_append.1 hx with hx | hx
    · exact h x hx
    · rw [List.mem_singleton] at hx; subst hx; exact h2
theorem foldl_good {P : Atr → Prop} {l acc : List Atr} (h : ∀ x ∈ acc, P x) (h2 : ∀ a ∈ l, P (atrnL a.1, right a.2)) : (∀ x ∈ l.foldl goodAt acc, P x) ∧ (l.foldl goodAt acc).length ≤ acc.length + l.length := by
  induction l generalizing acc with
  | nil => exact ⟨h, Nat.le_refl _⟩
  | cons a l ih =>
    have h3 := goodAt_all (a := a) h (h2 a (by simp))
    have h4 := ih h3 (fun x hx => h2 x (by simp [hx]))
    have h5 := goodAt_length acc a
    refine ⟨h4.1, ?_⟩
    rw [List.foldl_cons, List.length_cons]
    omega
theorem goodAts_small {l : List Atr} (h1 : l.length ≤ 5) (h2 : ∀ a ∈ l, a.1.length ≤ 30 ∧ a.2.length ≤ 30) : (goodAts l).length ≤ 5 ∧ ∀ a ∈ goodAts l, a.1.length ≤ 30 ∧ a.2.length ≤ 120 := by
  have := foldl_good (P := fun a => a.1.length ≤ 30 ∧ a.2.length ≤ 120) (l := l) (acc := []) (by simp) (fun a ha => by
    have h3 := h2 a ha
    have h4 := right_length a.2
    exact ⟨atrnL_length h3.1, by simp only []; omega⟩)
  refine ⟨?_, this.1⟩
  have h3 := this.2
  unfold goodAts
  simp only [List.length_nil, Nat.zero_add] at h3
  omega
theorem atrs_text {l : List Atr} (h1 : ∀ a ∈ l, a.1.length ≤ 30 ∧ a.2.length ≤ 120) : (l.flatMap atrL).length ≤ 754 * l.length := by
  induction l with
  | nil => simp
  | cons a l ih =>
    have h2 := ih (fun x hx => h1 x (by simp [hx]))
    have h3 := h1 a (by simp)
    have h4 := (esc_length true a.2).2
    have h5 : (atrL a).length = 4 + a.1.length + (esc true a.2).length := by simp only [atrL, List.length_append, List.length_cons, List.length_nil]; omega
    rw [List.flatMap_cons, List.length_append, List.length_cons, h5]
    omega
theorem withText_kind (o : Nd) (t : List UInt8) : (o.withText t).kind = o.kind := by cases o; rfl
theorem kidsL_step (raw : Bool) (D : List Nd) (n : Nd) : (kidsL raw (mergeStep D n)).length ≤ (kidsL raw D).length + (oneL raw n).length := by
  by_cases h : n.kind = 2 ∧ n.text = []
  · rw [mergeStep_skip h.1 h.2]; omega
  · rcases List.eq_nil_or_concat D with rfl | ⟨D, o, rfl⟩
    · rw [mergeStep_nil h]; simp [kidsL]
    · rw [List.concat_eq_append]
      by_cases h3 : n.kind = 2 ∧ o.kind = 2
      · rw [mergeStep_join h3.1 (fun e => h ⟨h3.1, e⟩) h3.2, kidsL_append, kidsL_append]
        have hk := withText_kind o (o.text ++ n.text)
        rw [h3.2] at hk
        cases raw
        · simp only [kidsL, oneL_text _ hk, oneL_text _ h3.1, oneL_text _ h3.2, withText_text, esc_append, List.length_append, List.append_nil]; omega
        · simp only [kidsL, oneL_raw _ hk, oneL_raw _ h3.1, oneL_raw _ h3.2, withText_text, List.length_append, List.append_nil]; omega
      · rw [mergeStep_push h h3, kidsL_append]
        simp only [kidsL, List.length_append, List.append_nil]; omega
theorem kidsL_fold (raw : Bool) (l D : List Nd) : (kidsL raw (l.foldl mergeStep D)).length ≤ (kidsL raw D).length + (kidsL raw l).length := by
  induction l generalizing D with
  | nil => simp
  | cons n l ih =>
    have h1 := ih (mergeStep D n)
    have h2 := kidsL_step raw D n
    rw [List.foldl_cons]
    simp only [kidsL, List.length_append]
    omega
theorem kidsL_merge (raw : Bool) (l : List Nd) : (kidsL raw (mergeL l)).length ≤ (kidsL raw l).length := by
  have := kidsL_fold raw l []
  simpa [mergeL, kidsL] using this
theorem good1_open {n : Nd} (h : Sm1 n) (hk : gKind n.kind = 1) : (opL (good1 n)).length ≤ 3803 ∧ (clL (good1 n)).length ≤ 33 := by
  obtain ⟨h1, h2, h3, h4, h5, h6⟩ := h.parts
  have hw := wordL_length h1
  have ha := goodAts_small h3 h4
  have ht := atrs_text ha.2
  rw [good1_elem n hk]
  constructor
  · have e : opL (.mk 1 (wordL n.name) (goodAts n.attrs) [] (goodL n.kids)) = [60] ++ (wordL n.name ++ ((goodAts n.attrs).flatMap atrL ++ [62])) := rfl
    rw [e]
    simp only [List.length_append, List.length_cons, List.length_nil]
    omega
  · unfold clL
    split
    · show ([60, 47] ++ (wordL n.name ++ [62]) : List UInt8).length ≤ 33
      simp only [List.length_append, List.length_cons, List.length_nil]; omega
    · simp
theorem good1_other_len {n : Nd} (raw : Bool) (h : Sm1 n) (hk : gKind n.kind ≠ 1) : (oneL raw (good1 n)).length ≤ 5000 := by
  obtain ⟨h1, h2, h3, h4, h5, h6⟩ := h.parts
  have hr := right_length n.text
  have he := (esc_length false (right n.text)).2
  rw [good1_other n hk]
  generalize gKind n.kind = k at *
  by_cases k2 : k = 2
  · subst k2
    cases raw
    · rw [oneL_text _ rfl]; show (esc false (right n.text)).length ≤ 5000; omega
    · rw [oneL_raw _ rfl]; show (right n.text).length ≤ 5000; omega
  · by_cases k3 : k = 3
    · subst k3
      rw [oneL_comment _ _ rfl]; show ([60, 33, 45, 45] ++ (right n.text ++ [45, 45, 62]) : List UInt8).length ≤ 5000
      simp only [List.length_append, List.length_cons, List.length_nil]; omega
    · rw [oneL_other _ (.mk k [] [] (right n.text) []) hk k2 k3]; simp
mutual
theorem one_len : ∀ (n : Nd) (raw : Bool), Sm1 n → (oneL raw (good1 n)).length ≤ 5000 * cnt1 n
  | .mk k nm ats tx kids, raw, h => by
    have hc := cnt1_eq (.mk k nm ats tx kids)
    simp only [Nd.kids] at hc
    rw [hc]
    by_cases hk : gKind (Nd.mk k nm ats tx kids).kind = 1
    · have ho := good1_open h hk
      have hk' : (good1 (.mk k nm ats tx kids)).kind = 1 := by rw [good1_elem _ hk]; rfl
      have hkk : (good1 (.mk k nm ats tx kids)).kids = goodL kids := by rw [good1_elem _ hk]; rfl
      have h6 := h.parts.2.2.2.2.2
      simp only [Nd.kids] at h6
      cases hv : voidL (good1 (.mk k nm ats tx kids)).name
      · rw [oneL_elem _ _ hk' hv, hkk]
        have h2 := kids_len kids (rawL (good1 (.mk k nm ats tx kids)).name) h6
        have h3 := kidsL_merge (rawL (good1 (.mk k nm ats tx kids)).name) (goodM kids)
        simp only [List.length_append, goodL]
        omega
      · rw [oneL_void _ _ hk' hv]; omega
    · have := good1_other_len raw h hk
      omega
theorem kids_len : ∀ (l : List Nd) (raw : Bool), SmL l → (kidsL raw (goodM l)).length ≤ 5000 * cntL l
  | [], _, _ => by simp [goodM, kidsL]
  | n :: l, raw, h => by
    simp only [SmL] at h
    have h1 := one_len n raw h.1
    have h2 := kids_len l raw h.2
    simp only [goodM, kidsL, cntL, List.length_append]
    omega
end
/-- nodes that may be, made of any -/
def goodOf (l : List Nd) : List Nd := goodL (cutL l 40).1
theorem goodOf_text (l : List Nd) : (textL (goodOf l)).length ≤ 200000 := by
  have h1 := cutL_small l 40 (Nat.le_refl _)
  have h2 := cutL_cnt l 40
  have h3 := kids_len (cutL l 40).1 false h1
  have h4 := kidsL_merge false (goodM (cutL l 40).1)
  unfold textL goodOf goodL
  omega
theorem mergeL_length (l : List Nd) : (mergeL l).length ≤ l.length := by
  have : ∀ (l D : List Nd), (l.foldl mergeStep D).length ≤ D.length + l.length := by
    intro l
    induction l with
    | nil => intro D; simp
    | cons n l ih =>
      intro D
      have h1 := ih (mergeStep D n)
      have h2 := mergeStep_length D n
      rw [List.foldl_cons, List.length_cons]
      omega
  have := this l []
  simpa [mergeL] using this
theorem goodOf_length (l : List Nd) : (goodOf l).length ≤ 40 := by
  have h1 := mergeL_length (goodM (cutL l 40).1)
  have h2 := goodM_length (cutL l 40).1
  have h3 := cutL_length l 40
  unfold goodOf goodL
  omega
end Go.Proofs.Ytninjljkdbemkaa
