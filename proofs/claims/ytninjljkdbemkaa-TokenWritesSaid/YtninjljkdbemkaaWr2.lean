/- The package write: what hands over a text (begin, end), whatever it is handed to. -/
import Derived.Test.YtninjljkdbemkaaWr1
import Derived.Test.YtninjljkdbemkaaRw6
namespace Go.Proofs.Ytninjljkdbemkaa
open Go.RowKit

theorem oth_of_below {e : TypeId} {b : Option Nat} {w w' : World} (h : Below w.heap.size w w') : Lib.OthersKept e b w w' :=
  fun k o hk _ _ => by rw [h.block k (Array.getElem?_eq_some_iff.1 hk).1]; exact hk

/-- a pointer to a node -/
def NodeAt (w : World) (B : Nat) (a : Addr) (n : Nd) : Prop := a.block < B ∧ ∃ A1 n1 c1 A2 n2 c2, 
    w.cell? a = some (.int .i64 n.kind) ∧ w.cell? (a.add 1) = some (sv n.name) ∧ w.cell? (a.add 2) = some (.slice A1 n1 c1) ∧
    w.cell? (a.add 3) = some (sv n.text) ∧ w.cell? (a.add 4) = some (.slice A2 n2 c2) ∧ n1 ≤ c1 ∧ Atrs w B A1 n1 n.attrs ∧ n2 ≤ c2 ∧ Nodes w B A2 n2 n.kids
theorem add0 (a : Addr) : a.add 0 = a := by unfold Addr.add; rw [if_pos rfl]
theorem Nodes.node {w : World} {B n : Nat} {A : Option Addr} {l : List Nd} (h : Nodes w B A n l) {k : Nat} (hk : k < n) (hk' : k < l.length) : ∃ a, A = some a ∧ NodeAt w B (a.add (k * 5)) l[k] := by
  obtain ⟨a, A1, n1, c1, A2, n2, c2, e, hb, h0, h1, h2, h3, h4, h5⟩ := h.at_ hk hk'
  refine ⟨a, e, by rw [block_add]; exact hb, A1, n1, c1, A2, n2, c2, h0, ?_, ?_, ?_, ?_, h5⟩ <;> rw [add_add] <;> assumption
theorem NodeAt.keep {w w' : World} {B : Nat} {a : Addr} {n : Nd} (h : NodeAt w B a n) (hb : Below B w w') : NodeAt w' B a n := by
  obtain ⟨h0, A1, n1, c1, A2, n2, c2, g0, g1, g2, g3, g4, g5, g6, g7, g8⟩ := h
  have hc : ∀ j, w'.cell? (a.add j) = w.cell? (a.add j) := fun j => hb.cell (by rw [block_add]; exact h0)
  exact ⟨h0, A1, n1, c1, A2, n2, c2, by rw [hb.cell h0]; exact g0, by rw [hc]; exact g1, by rw [hc]; exact g2, by rw [hc]; exact g3, by rw [hc]; exact g4, g5, g6.below hb, g7, g8.below hb⟩

section
variable {w w' : World} {B : Nat} {a : Addr} {n : Nd}
theorem NodeAt.k (h : NodeAt w B a n) : w.cell? a = some (.int .i64 n.kind) := by
  obtain ⟨h0, A1, n1, c1, A2, n2, c2, g0, _⟩ := h
  exact g0
theorem NodeAt.nm (h : NodeAt w B a n) : w.cell? ⟨a.block, a.off + 1, none⟩ = some (.string ⟨n.name.toArray⟩) := by
  obtain ⟨h0, A1, n1, c1, A2, n2, c2, g0, g1, _⟩ := h
  rw [add_pos a 1 (by omega)] at g1
  exact g1
theorem NodeAt.ats (h : NodeAt w B a n) : ∃ A c, w.cell? ⟨a.block, a.off + 2, none⟩ = some (.slice A n.attrs.length c) ∧ n.attrs.length ≤ c ∧ Atrs w B A n.attrs.length n.attrs := by
  obtain ⟨h0, A1, n1, c1, A2, n2, c2, g0, g1, g2, g3, g4, g5, g6, _⟩ := h
  rw [add_pos a 2 (by omega)] at g2
  have := g6.len
  subst this
  exact ⟨_, _, g2, g5, g6⟩
theorem NodeAt.tx (h : NodeAt w B a n) : w.cell? ⟨a.block, a.off + 3, none⟩ = some (.string ⟨n.text.toArray⟩) := by
  obtain ⟨h0, A1, n1, c1, A2, n2, c2, g0, g1, g2, g3, _⟩ := h
  rw [add_pos a 3 (by omega)] at g3
  exact g3
theorem NodeAt.kd (h : NodeAt w B a n) : ∃ A c, w.cell? ⟨a.block, a.off + 4, none⟩ = some (.slice A n.kids.length c) ∧ n.kids.length ≤ c ∧ Nodes w B A n.kids.length n.kids := by
  obtain ⟨h0, A1, n1, c1, A2, n2, c2, g0, g1, g2, g3, g4, g5, g6, g7, g8⟩ := h
  rw [add_pos a 4 (by omega)] at g4
  have := g8.len
  subst this
  exact ⟨_, _, g4, g7, g8⟩
end

end Go.Proofs.Ytninjljkdbemkaa
