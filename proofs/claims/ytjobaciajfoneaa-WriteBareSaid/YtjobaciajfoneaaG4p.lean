/- Plain: nodes without texts side by side. -/
import Derived.Test.YtjobaciajfoneaaG3p
namespace Go.Proofs.Ytjobaciajfoneaa

def Nd.withText : Nd → List UInt8 → Nd
  | .mk k nm ats _ kids, t => .mk k nm ats t kids
def mergeStep (D : List Nd) (n : Nd) : List Nd :=
  if n.kind = 2 ∧ n.text = [] then D
  else match D.getLast? with
    | none => D ++ [n]
    | some o => if n.kind = 2 ∧ o.kind = 2 then D.dropLast ++ [o.withText (o.text ++ n.text)] else D ++ [n]
def mergeL (l : List Nd) : List Nd := l.foldl mergeStep []
theorem mergeStep_skip {D : List Nd} {n : Nd} (h1 : n.kind = 2) (h2 : n.text = []) : mergeStep D n = D := by simp [mergeStep, h1, h2]
theorem mergeStep_nil {n : Nd} (h : ¬ (n.kind = 2 ∧ n.text = [])) : mergeStep [] n = [n] := by simp [mergeStep, h]
theorem mergeStep_join {D : List Nd} {o n : Nd} (h1 : n.kind = 2) (h2 : n.text ≠ []) (h3 : o.kind = 2) : mergeStep (D ++ [o]) n = D ++ [o.withText (o.text ++ n.text)] := by simp [mergeStep, h1, h2, h3]
theorem mergeStep_push {D : List Nd} {o n : Nd} (h : ¬ (n.kind = 2 ∧ n.text = [])) (h3 : ¬ (n.kind = 2 ∧ o.kind = 2)) : mergeStep (D ++ [o]) n = D ++ [o] ++ [n] := by
  simp only [mergeStep, if_neg h, List.getLast?_append, List.getLast?_singleton, Option.some_or, if_neg h3]
theorem mergeL_next {l : List Nd} {k : Nat} (hk : k < l.length) : (l.take (k + 1)).foldl mergeStep [] = mergeStep ((l.take k).foldl mergeStep []) l[k] := by
  rw [List.take_succ_eq_append_getElem hk, List.foldl_append]; rfl
def textSum : List Nd → Nat
  | [] => 0
  | n :: l => n.text.length + textSum l
theorem textSum_append (l m : List Nd) : textSum (l ++ m) = textSum l + textSum m := by
  induction l with
  | nil => simp [textSum]
  | cons n l ih => simp only [List.cons_append, textSum, ih]; omega
theorem withText_text (n : Nd) (t : List UInt8) : (n.withText t).text = t := by cases n; rfl
theorem textSum_step (D : List Nd) (n : Nd) : textSum (mergeStep D n) ≤ textSum D + n.text.length := by
  by_cases h : n.kind = 2 ∧ n.text = []
  · rw [mergeStep_skip h.1 h.2]; omega
  · rcases List.eq_nil_or_concat D with rfl | ⟨D, o, rfl⟩
    · rw [mergeStep_nil h]; simp [textSum]
    · rw [List.concat_eq_append]
      by_cases h3 : n.kind = 2 ∧ o.kind = 2
      · rw [mergeStep_join h3.1 (fun e => h ⟨h3.1, e⟩) h3.2, textSum_append, textSum_append]
        simp only [textSum, withText_text, List.length_append]; omega
      · rw [mergeStep_push h h3, textSum_append]
        simp only [textSum]; omega
theorem mergeStep_length (D : List Nd) (n : Nd) : (mergeStep D n).length ≤ D.length + 1 := by
  by_cases h : n.kind = 2 ∧ n.text = []
  · rw [mergeStep_skip h.1 h.2]; omega
  · rcases List.eq_nil_or_concat D with rfl | ⟨D, o, rfl⟩
    · rw [mergeStep_nil h]; simp
    · rw [List.concat_eq_append]
      by_cases h3 : n.kind = 2 ∧ o.kind = 2
      · rw [mergeStep_join h3.1 (fun e => h ⟨h3.1, e⟩) h3.2]; simp
      · rw [mergeStep_push h h3]; simp
end Go.Proofs.Ytjobaciajfoneaa
