/- Plain: how many < stand in the text of elements b with one attribute and one text. -/
import Derived.Test.YtjobaciajfoneaaWb
import Derived.Test.YtjobaciajfoneaaWj
namespace Go.Proofs.Ytjobaciajfoneaa

def brN (s : List UInt8) : Nd := .mk 1 [98] [([105, 100], s)] [] [.mk 2 [] [] (s ++ [120]) []]
def brM (s : List UInt8) : Nd := .mk 1 [98] [([105, 100], s.take 30)] [] [.mk 2 [] [] ((s ++ [120]).take 30) []]
theorem cutL_br : ∀ (l : List (List UInt8)) (m : Nat), 2 * l.length ≤ m → (cutL (l.map brN) m).1 = l.map brM
  | [], m, _ => by simp [cutL_nil]
  | s :: l, m, h => by
    rw [List.length_cons] at h
    have hc : cut1 (brN s) (m - 1) = (brM s, m - 2) := by
      have : 0 < m - 1 := by omega
      simp [brN, brM, cut1, cutL, cutA, this]
      omega
    rw [List.map_cons, cutL_cons _ _ (by omega), hc]
    simp only []
    rw [cutL_br l (m - 2) (by omega), List.map_cons]
def cnt60 (l : List UInt8) : Nat := (l.filter fun c => c == 60).length
theorem cnt60_append (a b : List UInt8) : cnt60 (a ++ b) = cnt60 a + cnt60 b := by simp [cnt60]
theorem cnt60_none {l : List UInt8} (h : ∀ x ∈ l, x ≠ 60) : cnt60 l = 0 := by
  simp only [cnt60, List.length_eq_zero_iff, List.filter_eq_nil_iff, beq_iff_eq]
  exact h
theorem cnt60_esc (v : Bool) (l : List UInt8) : cnt60 (esc v l) = 0 := cnt60_none fun x hx => (esc_bare v l x hx).1
theorem mergeL_elems {l : List Nd} (h : ∀ n ∈ l, n.kind = 1) : mergeL l = l := by
  have : ∀ (l D : List Nd), (∀ n ∈ l, n.kind = 1) → l.foldl mergeStep D = D ++ l := by
    intro l
    induction l with
    | nil => intro D _; simp
    | cons n l ih =>
      intro D h
      have h1 : n.kind = 1 := h n (by simp)
      have hs : mergeStep D n = D ++ [n] := by
        have h2 : ¬ (n.kind = 2 ∧ n.text = []) := by rw [h1]; simp
        rcases List.eq_nil_or_concat D with rfl | ⟨D, o, rfl⟩
        · rw [mergeStep_nil h2]; rfl
        · rw [List.concat_eq_append, mergeStep_push h2 (by rw [h1]; simp)]
      rw [List.foldl_cons, hs, ih _ (fun x hx => h x (by simp [hx]))]
      simp
  simpa [mergeL] using this l [] h
theorem br_word : wordL [98] = [98] := by decide
theorem br_atr : atrnL [105, 100] = [105, 100] := by
  have h : attrdL [105, 100] = true := by decide +kernel
  simp [atrnL, h]
def brG (s : List UInt8) : Nd := good1 (brM s)
theorem brG_eq (s : List UInt8) : brG s = .mk 1 [98] [([105, 100], right (s.take 30))] [] (goodL [.mk 2 [] [] ((s ++ [120]).take 30) []]) := by
  unfold brG brM
  rw [good1_elem _ (by rfl)]
  simp only [Nd.name, Nd.attrs, Nd.kids, br_word, goodAts, List.foldl_cons, List.foldl_nil, goodAt, br_atr, valL]
  rfl
theorem brKids (s : List UInt8) : cnt60 (kidsL false (goodL [.mk 2 [] [] s []])) = 0 := by
  have h : goodM [.mk 2 [] [] s []] = [.mk 2 [] [] (right s) []] := by
    simp only [goodM]
    rw [good1_other (.mk 2 [] [] s []) (show gKind 2 ≠ 1 by decide)]
    rfl
  unfold goodL
  rw [h]
  generalize right s = t
  by_cases ht : t = []
  · subst ht
    rfl
  · have : mergeL [.mk 2 [] [] t []] = [.mk 2 [] [] t []] := by
      unfold mergeL
      rw [List.foldl_cons, List.foldl_nil, mergeStep_nil]
      rintro ⟨_, h2⟩
      exact ht h2
    rw [this]
    simp only [kidsL, List.append_nil]
    rw [oneL_text _ rfl]
    exact cnt60_esc _ _
theorem brOne' (v : List UInt8) (kids : List Nd) : cnt60 (oneL false (.mk 1 [98] [([105, 100], v)] [] kids)) = 2 + cnt60 (kidsL false kids) := by
  have h1 : voidL [98] = false := by decide
  have h2 : rawL [98] = false := by decide
  have h3 : clL (.mk 1 [98] [([105, 100], v)] [] kids) = [60, 47, 98, 62] := by
    unfold clL
    rw [if_pos ⟨rfl, h1⟩]
    rfl
  have h4 : opL (.mk 1 [98] [([105, 100], v)] [] kids) = [60, 98, 32, 105, 100, 61, 34] ++ (esc true v ++ [34, 62]) := by
    simp [opL, Nd.kind, Nd.name, Nd.attrs, atrL]
  simp only [oneL, if_true, h1, h2, h3, h4, Bool.false_eq_true, if_false, cnt60_append, cnt60_esc]
  have e1 : cnt60 [60, 98, 32, 105, 100, 61, 34] = 1 := by decide
  have e2 : cnt60 [34, 62] = 0 := by decide
  have e3 : cnt60 [60, 47, 98, 62] = 1 := by decide
  omega
theorem brOne (s : List UInt8) : cnt60 (oneL false (brG s)) = 2 := by
  rw [brG_eq, brOne', brKids]
theorem br_all : ∀ l : List (List UInt8), cnt60 (kidsL false (l.map brG)) = 2 * l.length
  | [] => by simp [kidsL, cnt60]
  | s :: l => by
    have := br_all l
    have := brOne s
    simp only [List.map_cons, kidsL, cnt60_append, List.length_cons]
    omega
theorem br_good (l : List (List UInt8)) (h : l.length ≤ 6) : goodOf (l.map brN) = l.map brG := by
  unfold goodOf goodL
  rw [cutL_br l 40 (by omega)]
  have : ∀ l : List (List UInt8), goodM (l.map brM) = l.map brG := by
    intro l
    induction l with
    | nil => simp [goodM]
    | cons s l ih => simp only [List.map_cons, goodM, ih]; rfl
  rw [this]
  refine mergeL_elems ?_
  intro n hn
  obtain ⟨s, _, rfl⟩ := List.mem_map.1 hn
  rw [brG_eq]; rfl
/-- as many < as tags -/
theorem br_count (l : List (List UInt8)) (h : l.length ≤ 6) : cnt60 (textL (goodOf (l.map brN))) = 2 * (goodOf (l.map brN)).length := by
  rw [br_good l h, textL, br_all, List.length_map]
theorem cnt60_next {l : List UInt8} {k : Nat} (hk : k < l.length) : cnt60 (l.take (k + 1)) = cnt60 (l.take k) + (if l[k] = 60 then 1 else 0) := by
  rw [List.take_succ_eq_append_getElem hk, cnt60_append]
  by_cases h : l[k] = 60 <;> simp [cnt60, h]
end Go.Proofs.Ytjobaciajfoneaa
