/- Plain: nodes, few of all (cut), and made such as may be (good). Plain: nodes without texts side by side. Plain: nodes made such as may be (good), of small ones. -/
import Derived.Test.YtninjljkdbemkaaG2
import Derived.Test.YtninjljkdbemkaaWp
import Derived.Test.YtninjljkdbemkaaG1
namespace Go.Proofs.Ytninjljkdbemkaa

def cutA (a : Atr) : Atr := (a.1.take 30, a.2.take 30)
mutual
def cut1 : Nd → Nat → Nd × Nat
  | .mk k nm ats tx kids, m => (.mk k (nm.take 30) ((ats.take 5).map cutA) (tx.take 30) (cutL kids m).1, (cutL kids m).2)
def cutL : List Nd → Nat → List Nd × Nat
  | [], m => ([], m)
  | n :: l, m => if 0 < m then ((cut1 n (m - 1)).1 :: (cutL l (cut1 n (m - 1)).2).1, (cutL l (cut1 n (m - 1)).2).2) else ([], m)
end
theorem cutL_nil (m : Nat) : cutL [] m = ([], m) := by simp only [cutL]
theorem cutL_zero (l : List Nd) : cutL l 0 = ([], 0) := by cases l <;> simp [cutL]
theorem cutL_cons (n : Nd) (l : List Nd) {m : Nat} (h : 0 < m) : cutL (n :: l) m = ((cut1 n (m - 1)).1 :: (cutL l (cut1 n (m - 1)).2).1, (cutL l (cut1 n (m - 1)).2).2) := by simp [cutL, h]
theorem cut1_eq (n : Nd) (m : Nat) : cut1 n m = (.mk n.kind (n.name.take 30) ((n.attrs.take 5).map cutA) (n.text.take 30) (cutL n.kids m).1, (cutL n.kids m).2) := by
  cases n; simp only [cut1, Nd.kind, Nd.name, Nd.attrs, Nd.text, Nd.kids]
mutual
theorem cut1_le : ∀ (n : Nd) (m : Nat), (cut1 n m).2 ≤ m
  | .mk _ _ _ _ kids, m => by simp only [cut1]; exact cutL_le kids m
theorem cutL_le : ∀ (l : List Nd) (m : Nat), (cutL l m).2 ≤ m
  | [], m => by simp [cutL]
  | n :: l, m => by
    simp only [cutL]
    split
    · have h1 := cut1_le n (m - 1)
      have h2 := cutL_le l (cut1 n (m - 1)).2
      simp only []
      omega
    · exact Nat.le_refl _
end
theorem cutL_length : ∀ (l : List Nd) (m : Nat), (cutL l m).1.length + (cutL l m).2 ≤ m
  | [], m => by simp [cutL]
  | n :: l, m => by
    simp only [cutL]
    split
    · have h1 := cut1_le n (m - 1)
      have h2 := cutL_length l (cut1 n (m - 1)).2
      simp only [List.length_cons]
      omega
    · simp
end Go.Proofs.Ytninjljkdbemkaa
namespace Go.Proofs.Ytninjljkdbemkaa

def Nd.withText : Nd → List UInt8 → Nd
  | .mk k nm ats _ kids, t => .mk k nm ats t kids
def mergeStep (D : List Nd) (n : Nd) : List Nd :=
  if n.kind = 2 ∧ n.text = [] then D
  else match D.getLast? with
    | none => D ++ [n]
    | some o => if n.kind = 2 ∧ o.kind = 2 then D.dropLast ++ [o.withText (o.text ++ n.text)] else D ++ [n]
def mergeL (l : List Nd) : List Nd := l.foldl mergeStep []
theorem mergeStep_skip {D : List Nd} {n : Nd} (h1 : n.kind = 2) (h2 : n.text = []) : mergeStep D n = D := by simp [mergeStep, h1, h2]
theorem mergeStep_nil {n : Nd} (h : ¬ (n.kind = 2 ∧ n.text = [])) : mergeStep [] n = [n] := by simp [mergeStep, h]
theorem mergeStep_join {D : List Nd} {o n : Nd} (h1 : n.kind = 2) (h2 : n.text ≠ []) (h3 : o.kind = 2) : mergeStep (D ++ [o]) n = D ++ [o.withText (o.text ++ n.text)] := by simp [mergeStep, h1, h2, h3]
theorem mergeStep_push {D : List Nd} {o n : Nd} (h : ¬ (n.kind = 2 ∧ n.text = [])) (h3 : ¬ (n.kind = 2 ∧ o.kind = 2)) : mergeStep (D ++ [o]) n = D ++ [o] ++ [n] := by
  simp only [mergeStep, if_neg h, List.getLast?_append, List.getLast?_singleton, Option.some_or, if_neg h3]
theorem mergeL_next {l : List Nd} {k : Nat} (hk : k < l.length) : (l.take (k + 1)).foldl mergeStep [] = mergeStep ((l.take k).foldl mergeStep []) l[k] := by
  rw [List.take_succ_eq_append_getElem hk, List.foldl_append]; rfl
def textSum : List Nd → Nat
  | [] => 0
  | n :: l => n.text.length + textSum l
theorem textSum_append (l m : List Nd) : textSum (l ++ m) = textSum l + textSum m := by
  induction l with
  | nil => simp [textSum]
  | cons n l ih => simp only [List.cons_append, textSum, ih]; omega
theorem withText_text (n : Nd) (t : List UInt8) : (n.withText t).text = t := by cases n; rfl
theorem textSum_step (D : List Nd) (n : Nd) : textSum (mergeStep D n) ≤ textSum D + n.text.length := by
  by_cases h : n.kind = 2 ∧ n.text = []
  · rw [mergeStep_skip h.1 h.2]; omega
  · rcases List.eq_nil_or_concat D with rfl | ⟨D, o, rfl⟩
    · rw [mergeStep_nil h]; simp [textSum]
    · rw [List.concat_eq_append]
      by_cases h3 : n.kind = 2 ∧ o.kind = 2
      · rw [mergeStep_join h3.1 (fun e => h ⟨h3.1, e⟩) h3.2, textSum_append, textSum_append]
        simp only [textSum, withText_text, List.length_append]; omega
      · rw [mergeStep_push h h3, textSum_append]
        simp only [textSum]; omega
theorem mergeStep_length (D : List Nd) (n : Nd) : (mergeStep D n).length ≤ D.length + 1 := by
  by_cases h : n.kind = 2 ∧ n.text = []
  · rw [mergeStep_skip h.1 h.2]; omega
  · rcases List.eq_nil_or_concat D with rfl | ⟨D, o, rfl⟩
    · rw [mergeStep_nil h]; simp
    · rw [List.concat_eq_append]
      by_cases h3 : n.kind = 2 ∧ o.kind = 2
      · rw [mergeStep_join h3.1 (fun e => h ⟨h3.1, e⟩) h3.2]; simp
      · rw [mergeStep_push h h3]; simp
end Go.Proofs.Ytninjljkdbemkaa
namespace Go.Proofs.Ytninjljkdbemkaa

def gKind (k : Int) : Int := if k < 1 ∨ 3 < k then 1 else k
def goodAt (acc : List Atr) (a : Atr) : List Atr := if (valL acc (atrnL a.1)).isSome = true then acc else acc ++ [(atrnL a.1, right a.2)]
def goodAts (l : List Atr) : List Atr := l.foldl goodAt []
mutual
def good1 : Nd → Nd
  | .mk k nm ats tx kids => if gKind k ≠ 1 then .mk (gKind k) [] [] (right tx) [] else .mk 1 (wordL nm) (goodAts ats) [] (mergeL (goodM kids))
def goodM : List Nd → List Nd
  | [] => []
  | n :: l => good1 n :: goodM l
end
def goodL (l : List Nd) : List Nd := mergeL (goodM l)
theorem good1_other (n : Nd) (h : gKind n.kind ≠ 1) : good1 n = .mk (gKind n.kind) [] [] (right n.text) [] := by
  cases n; simp only [Nd.kind] at h; simp [good1, h, Nd.kind, Nd.text]
theorem good1_elem (n : Nd) (h : gKind n.kind = 1) : good1 n = .mk 1 (wordL n.name) (goodAts n.attrs) [] (goodL n.kids) := by
  cases n; simp only [Nd.kind] at h; simp [good1, h, Nd.name, Nd.attrs, Nd.kids, goodL]
theorem goodM_append (l m : List Nd) : goodM (l ++ m) = goodM l ++ goodM m := by
  induction l with
  | nil => simp [goodM]
  | cons n l ih => simp only [List.cons_append, goodM, ih]
theorem goodM_length (l : List Nd) : (goodM l).length = l.length := by
  induction l with
  | nil => simp [goodM]
  | cons n l ih => simp only [goodM, List.length_cons, ih]
theorem goodM_next {l : List Nd} {k : Nat} (hk : k < l.length) : goodM (l.take (k + 1)) = goodM (l.take k) ++ [good1 l[k]] := by
  rw [List.take_succ_eq_append_getElem hk, goodM_append]; simp [goodM]

mutual
/-- a node whose strings have at most 30 bytes, of at most 5 attributes, and so on -/
def Sm1 : Nd → Prop
  | .mk _ nm ats tx kids => nm.length ≤ 30 ∧ tx.length ≤ 30 ∧ ats.length ≤ 5 ∧ (∀ a ∈ ats, a.1.length ≤ 30 ∧ a.2.length ≤ 30) ∧ kids.length ≤ 40 ∧ SmL kids
def SmL : List Nd → Prop
  | [] => True
  | n :: l => Sm1 n ∧ SmL l
end
theorem Sm1.parts {n : Nd} (h : Sm1 n) : n.name.length ≤ 30 ∧ n.text.length ≤ 30 ∧ n.attrs.length ≤ 5 ∧ (∀ a ∈ n.attrs, a.1.length ≤ 30 ∧ a.2.length ≤ 30) ∧ n.kids.length ≤ 40 ∧ SmL n.kids := by
  cases n; simp only [Sm1] at h; exact h
theorem SmL.at_ {l : List Nd} (h : SmL l) {k : Nat} (hk : k < l.length) : Sm1 l[k] := by
  induction l generalizing k with
  | nil => simp at hk
  | cons n l ih =>
    simp only [SmL] at h
    match k with
    | 0 => exact h.1
    | k + 1 => exact ih h.2 (k := k) (by simpa using hk)
mutual
theorem cut1_small : ∀ (n : Nd) (m : Nat), m ≤ 40 → Sm1 (cut1 n m).1
  | .mk k nm ats tx kids, m, hm => by
    simp only [cut1, Sm1]
    refine ⟨by rw [List.length_take]; omega, by rw [List.length_take]; omega, by rw [List.length_map, List.length_take]; omega, ?_, ?_, cutL_small kids m hm⟩
    · intro a ha
      obtain ⟨b, _, rfl⟩ := List.mem_map.1 ha
      simp only [cutA, List.length_take]
      omega
    · have := cutL_length kids m; omega
theorem cutL_small : ∀ (l : List Nd) (m : Nat), m ≤ 40 → SmL (cutL l m).1
  | [], m, _ => by simp [cutL, SmL]
  | n :: l, m, hm => by
    simp only [cutL]
    split
    · simp only [SmL]
      have h1 := cut1_le n (m - 1)
      exact ⟨cut1_small n (m - 1) (by omega), cutL_small l _ (by omega)⟩
    · simp only [SmL]
end
theorem goodM_text {l : List Nd} (h : SmL l) : textSum (goodM l) ≤ 120 * l.length := by
  induction l with
  | nil => simp [goodM, textSum]
  | cons n l ih =>
    simp only [SmL] at h
    have h1 := ih h.2
    have h2 : (good1 n).text.length ≤ 120 := by
      by_cases hk : gKind n.kind = 1
      · rw [good1_elem n hk]; simp [Nd.text]
      · rw [good1_other n hk]
        have := right_length n.text
        have := h.1.parts.2.1
        simp only [Nd.text] at *
        omega
    simp only [goodM, textSum, List.length_cons]
    omega
theorem goodAts_next {l : List Atr} {k : Nat} (hk : k < l.length) : (l.take (k + 1)).foldl goodAt [] = goodAt ((l.take k).foldl goodAt []) l[k] := by
  rw [List.take_succ_eq_append_getElem hk, List.foldl_append]; rfl
theorem goodAt_length (acc : List Atr) (a : Atr) : (goodAt acc a).length ≤ acc.length + 1 := by
  unfold goodAt; split <;> simp
end Go.Proofs.Ytninjljkdbemkaa
