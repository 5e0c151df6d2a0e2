/- The package write: begin. -/
import Derived.Test.YtninjljkdbemkaaWr2
namespace Go.Proofs.Ytninjljkdbemkaa
open Go.RowKit

/-- the attribute at k, as the walk reads it -/
theorem Atrs.cells {w : World} {B n : Nat} {A : Option Addr} {l : List Atr} (h : Atrs w B A n l) {k : Nat} (hk : k < n) (hk' : k < l.length) :
    ∃ a, A = some a ∧ (a.add (k * 2)).block < B ∧ w.cell? (a.add (k * 2)) = some (.string ⟨l[k].1.toArray⟩) ∧ w.cell? ⟨(a.add (k * 2)).block, (a.add (k * 2)).off + 1, none⟩ = some (.string ⟨l[k].2.toArray⟩) := by
  obtain ⟨a, e, hb, h1, h2⟩ := h.at_ hk hk'
  refine ⟨a, e, by rw [block_add]; exact hb, h1, ?_⟩
  rw [← add_add, add_pos (a.add (k * 2)) 1 (by omega)] at h2
  exact h2
/-- a block of another type stands behind what puts a text -/
theorem box_kept {b g : Nat} {e T : TypeId} {w w' : World} {cs : Array Value} {fz : Nat × Nat} (h : Lib.OthersKept e (some b) w w') (hg : w.heap[g]? = some (.cells cs T fz)) (hgb : g ≠ b) (hT : T ≠ e) : w'.heap[g]? = some (.cells cs T fz) :=
  h g _ hg (fun e => hgb (Option.some.inj e)) (fun c fz' e => by injection e with _ e2; exact hT e2)
theorem flatAtr_snoc {l : List Atr} {k : Nat} (hk : k < l.length) : (l.take (k + 1)).flatMap atrL = (l.take k).flatMap atrL ++ atrL l[k] := by
  rw [List.take_succ_eq_append_getElem hk, List.flatMap_append]; simp
theorem flatAtr_le (l : List Atr) (k : Nat) : ((l.take k).flatMap atrL).length ≤ (l.flatMap atrL).length := by
  conv => rhs; rw [← List.take_append_drop k l, List.flatMap_append, List.length_append]
  omega
theorem atrL_le {l : List Atr} {k : Nat} (hk : k < l.length) : ((l.take k).flatMap atrL).length + (atrL l[k]).length ≤ (l.flatMap atrL).length := by
  have := flatAtr_le l (k + 1)
  rw [flatAtr_snoc hk, List.length_append] at this
  exact this
theorem atrL_length (a : Atr) : (atrL a).length = 4 + a.1.length + (esc true a.2).length := by
  simp only [atrL, List.length_append, List.length_cons, List.length_nil]; omega

end Go.Proofs.Ytninjljkdbemkaa
