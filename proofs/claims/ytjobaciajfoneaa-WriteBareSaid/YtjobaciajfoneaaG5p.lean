/- Plain: nodes made such as may be (good), of small ones. -/
import Derived.Test.YtjobaciajfoneaaG4p
import Derived.Test.YtjobaciajfoneaaG1
namespace Go.Proofs.Ytjobaciajfoneaa

def gKind (k : Int) : Int := if k < 1 ∨ 3 < k then 1 else k
def goodAt (acc : List Atr) (a : Atr) : List Atr := if (valL acc (atrnL a.1)).isSome = true then acc else acc ++ [(atrnL a.1, right a.2)]
def goodAts (l : List Atr) : List Atr := l.foldl goodAt []
mutual
def good1 : Nd → Nd
  | .mk k nm ats tx kids => if gKind k ≠ 1 then .mk (gKind k) [] [] (right tx) [] else .mk 1 (wordL nm) (goodAts ats) [] (mergeL (goodM kids))
def goodM : List Nd → List Nd
  | [] => []
  | n :: l => good1 n :: goodM l
end
def goodL (l : List Nd) : List Nd := mergeL (goodM l)
theorem good1_other (n : Nd) (h : gKind n.kind ≠ 1) : good1 n = .mk (gKind n.kind) [] [] (right n.text) [] := by
  cases n; simp only [Nd.kind] at h; simp [good1, h, Nd.kind, Nd.text]
theorem good1_elem (n : Nd) (h : gKind n.kind = 1) : good1 n = .mk 1 (wordL n.name) (goodAts n.attrs) [] (goodL n.kids) := by
  cases n; simp only [Nd.kind] at h; simp [good1, h, Nd.name, Nd.attrs, Nd.kids, goodL]
theorem goodM_append (l m : List Nd) : goodM (l ++ m) = goodM l ++ goodM m := by
  induction l with
  | nil => simp [goodM]
  | cons n l ih => simp only [List.cons_append, goodM, ih]
theorem goodM_length (l : List Nd) : (goodM l).length = l.length := by
  induction l with
  | nil => simp [goodM]
  | cons n l ih => simp only [goodM, List.length_cons, ih]
theorem goodM_next {l : List Nd} {k : Nat} (hk : k < l.length) : goodM (l.take (k + 1)) = goodM (l.take k) ++ [good1 l[k]] := by
  rw [List.take_succ_eq_append_getElem hk, goodM_append]; simp [goodM]

mutual
/-- a node whose strings have at most 30 bytes, of at most 5 attributes, and so on -/
def Sm1 : Nd → Prop
  | .mk _ nm ats tx kids => nm.length ≤ 30 ∧ tx.length ≤ 30 ∧ ats.length ≤ 5 ∧ (∀ a ∈ ats, a.1.length ≤ 30 ∧ a.2.length ≤ 30) ∧ kids.length ≤ 40 ∧ SmL kids
def SmL : List Nd → Prop
  | [] => True
  | n :: l => Sm1 n ∧ SmL l
end
theorem Sm1.parts {n : Nd} (h : Sm1 n) : n.name.length ≤ 30 ∧ n.text.length ≤ 30 ∧ n.attrs.length ≤ 5 ∧ (∀ a ∈ n.attrs, a.1.length ≤ 30 ∧ a.2.length ≤ 30) ∧ n.kids.length ≤ 40 ∧ SmL n.kids := by
  cases n; simp only [Sm1] at h; exact h
theorem SmL.at_ {l : List Nd} (h : SmL l) {k : Nat} (hk : k < l.length) : Sm1 l[k] := by
  induction l generalizing k with
  | nil => simp at hk
  | cons n l ih =>
    simp only [SmL] at h
    match k with
    | 0 => exact h.1
    | k + 1 => exact ih h.2 (k := k) (by simpa using hk)
mutual
theorem cut1_small : ∀ (n : Nd) (m : Nat), m ≤ 40 → Sm1 (cut1 n m).1
  | .mk k nm ats tx kids, m, hm => by
    simp only [cut1, Sm1]
    refine ⟨by rw [List.length_take]; omega, by rw [List.length_take]; omega, by rw [List.length_map, List.length_take]; omega, ?_, ?_, cutL_small kids m hm⟩
    · intro a ha
      obtain ⟨b, _, rfl⟩ := List.mem_map.1 ha
      simp only [cutA, List.length_take]
      omega
    · have := cutL_length kids m; omega
theorem cutL_small : ∀ (l : List Nd) (m : Nat), m ≤ 40 → SmL (cutL l m).1
  | [], m, _ => by simp [cutL, SmL]
  | n :: l, m, hm => by
    simp only [cutL]
    split
    · simp only [SmL]
      have h1 := cut1_le n (m - 1)
      exact ⟨cut1_small n (m - 1) (by omega), cutL_small l _ (by omega)⟩
    · simp only [SmL]
end
theorem goodM_text {l : List Nd} (h : SmL l) : textSum (goodM l) ≤ 120 * l.length := by
  induction l with
  | nil => simp [goodM, textSum]
  | cons n l ih =>
    simp only [SmL] at h
    have h1 := ih h.2
    have h2 : (good1 n).text.length ≤ 120 := by
      by_cases hk : gKind n.kind = 1
      · rw [good1_elem n hk]; simp [Nd.text]
      · rw [good1_other n hk]
        have := right_length n.text
        have := h.1.parts.2.1
        simp only [Nd.text] at *
        omega
    simp only [goodM, textSum, List.length_cons]
    omega
theorem goodAts_next {l : List Atr} {k : Nat} (hk : k < l.length) : (l.take (k + 1)).foldl goodAt [] = goodAt ((l.take k).foldl goodAt []) l[k] := by
  rw [List.take_succ_eq_append_getElem hk, List.foldl_append]; rfl
theorem goodAt_length (acc : List Atr) (a : Atr) : (goodAt acc a).length ≤ acc.length + 1 := by
  unfold goodAt; split <;> simp
end Go.Proofs.Ytjobaciajfoneaa
