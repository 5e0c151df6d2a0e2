/- The law WriteGrows. -/
import Derived.Test.YtninjljkdbemkaaWg
namespace Go.Proofs.Ytninjljkdbemkaa
open Go.RowKit

/-- a slice cut to its first K elements, as 'if len(a) > K { a = a[:K] }' leaves it -/
theorem cut_to {w : World} {B n : Nat} {A : Option Addr} {l : List UInt8} (K : Nat) (hr : Rd w B 1 A n (Lib.byteCells l)) :
    ∃ n1, n1 ≤ K ∧ Rd w B 1 A n1 (Lib.byteCells (l.take K)) ∧ ((n ≤ K ∧ n1 = n) ∨ (¬ n ≤ K ∧ n1 = K ∧ ∃ a, A = some a)) := by
  by_cases hn : n ≤ K
  · refine ⟨n, hn, ?_, .inl ⟨hn, rfl⟩⟩
    have hl := hr.len
    rw [Lib.byteCells_length] at hl
    rw [List.take_of_length_le (by omega)]; exact hr
  · refine ⟨K, Nat.le_refl _, ?_, .inr ⟨hn, rfl, ?_⟩⟩
    · have := hr.take (k := K) (by omega)
      rwa [Nat.mul_one, byteCells_take] at this
    · obtain ⟨a, e, _⟩ := hr.2 (by
        intro e
        have := hr.len
        rw [e] at this
        simp at this
        omega)
      exact ⟨a, e⟩

theorem len_take (l : List UInt8) (k : Nat) : (l.take k).length ≤ k := List.length_take_le _ _

theorem cat_str (a b : List UInt8) : (⟨a.toArray⟩ : ByteArray) ++ ⟨b.toArray⟩ = ⟨(a ++ b).toArray⟩ := by
  apply ByteArray.ext
  simp
theorem grows_bare : textL [.mk 1 [98] [] [] []] = [60, 98, 62, 60, 47, 98, 62] := by decide +kernel
theorem grows_more (v t : List UInt8) : textL [.mk 1 [98] [([105, 100], v)] [] [.mk 2 [] [] t []]] = [60, 98, 32, 105, 100, 61, 34] ++ (esc true v ++ ([34, 62] ++ (esc false t ++ [60, 47, 98, 62]))) := by
  simp [textL, kidsL, oneL, opL, clL, atrL, voidL, rawL, Nd.kind, Nd.name, Nd.attrs]

theorem grows_len (v t : List UInt8) : ((textL [.mk 1 [98] [([105, 100], v)] [] [.mk 2 [] [] t []]]).length : Int) = (textL [.mk 1 [98] [] [] []]).length + 6 + (esc true v).length + (esc false t).length := by
  rw [grows_more, grows_bare]
  simp only [List.length_append, List.length_cons, List.length_nil]
  omega
end Go.Proofs.Ytninjljkdbemkaa
