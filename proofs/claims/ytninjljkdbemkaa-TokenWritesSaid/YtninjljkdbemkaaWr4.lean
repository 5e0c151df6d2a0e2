/- The package write: tell. -/
import Derived.Test.YtninjljkdbemkaaWr3
import Derived.WalkSmall
import Derived.Deep.LoopGhost
namespace Go.Proofs.Ytninjljkdbemkaa
open Go.RowKit

/-- a level of the walk -/
structure Fr where
  of : Option (Addr × Nd)
  A : Option Addr
  c : Nat
  rest : List Nd
def Fr.cells (f : Fr) : List Value := [.pointer (f.of.map (·.1)), .slice f.A f.rest.length f.c]
def stCells : List Fr → List Value
  | [] => []
  | f :: S => stCells S ++ f.cells
def FrOk (w : World) (B : Nat) (f : Fr) : Prop := Nodes w B f.A f.rest.length f.rest ∧ f.rest.length ≤ f.c ∧ ∀ p, f.of = some p → NodeAt w B p.1 p.2
def StOk (w : World) (B : Nat) (S : List Fr) : Prop := ∀ f ∈ S, FrOk w B f
def rawOf : Option (Addr × Nd) → Bool
  | none => false
  | some p => rawL p.2.name
def clOf : Option (Addr × Nd) → List UInt8
  | none => []
  | some p => clL p.2
def stText : List Fr → List UInt8
  | [] => []
  | f :: S => kidsL (rawOf f.of) f.rest ++ (clOf f.of ++ stText S)
def stWt : List Fr → Nat
  | [] => 0
  | f :: S => 1 + wtL f.rest + stWt S
def Deep : List Fr → Prop
  | [] => True
  | f :: S => (S = [] ∨ ∃ p, f.of = some p ∧ clL p.2 ≠ []) ∧ Deep S
theorem Deep.le (S : List Fr) (h : Deep S) : S.length ≤ (stText S).length + 1 := by
  induction S with
  | nil => simp
  | cons f S ih =>
    obtain ⟨h1, h2⟩ := h
    rw [stText, List.length_cons, List.length_append, List.length_append]
    rcases h1 with rfl | ⟨p, hp, hc⟩
    · simp
    · rw [hp]
      have := ih h2
      have hc' := List.length_pos_iff.2 hc
      simp only [clOf]
      omega
theorem stCells_length (S : List Fr) : (stCells S).length = S.length * 2 := by
  induction S with
  | nil => rfl
  | cons f S ih => rw [stCells, List.length_append, ih, List.length_cons]; simp [Fr.cells]; omega
theorem FrOk.keep {w w' : World} {B : Nat} {f : Fr} (h : FrOk w B f) (hb : Below B w w') : FrOk w' B f := ⟨h.1.below hb, h.2.1, fun p hp => (h.2.2 p hp).keep hb⟩
theorem StOk.keep {w w' : World} {B : Nat} {S : List Fr} (h : StOk w B S) (hb : Below B w w') : StOk w' B S := fun f hf => (h f hf).keep hb

theorem oth_setRow {e : TypeId} {w : World} {g : Nat} {cs : Array Value} {fz : Nat × Nat} (h : w.heap[g]? = some (.cells cs e fz)) (j : Nat) (u : Value) : Lib.OthersKept e none w (w.setCell ⟨g, j, none⟩ u) := by
  intro k o hk _ ho
  rw [Below.heap_setCell _ _ _ _ (fun e1 => by subst e1; rw [h] at hk; exact ho _ _ (Option.some.inj hk).symm)]
  exact hk
theorem own_heap {w : World} {base z n g cap : Nat} {e : TypeId} {xs : List Value} (h : w.ownsRow base e z (.slice (some ⟨g, 0, none⟩) n cap) n xs) : ∃ cur, w.heap[g]? = some (.cells cur e (0, 0)) := by
  rcases h.2 with ⟨h', _⟩ | ⟨g', cap', cur, h', e1, e2, _⟩
  · cases h'
  · injection h' with h' _ h2
    injection h' with h'
    injection h' with h'
    subst h' h2
    exact ⟨cur, e2⟩
theorem own_oth {w w' : World} {base z n g cap b : Nat} {e T : TypeId} {xs : List Value} (h : w.ownsRow base e z (.slice (some ⟨g, 0, none⟩) n cap) n xs) (k : Lib.OthersKept T (some b) w w') (hgb : g ≠ b) (hT : e ≠ T) :
    w'.ownsRow base e z (.slice (some ⟨g, 0, none⟩) n cap) n xs := by
  rcases h.2 with ⟨h', _⟩ | ⟨g', cap', cur, h', e1, e2, e3, e4, e5⟩
  · cases h'
  · injection h' with h' _ h2
    injection h' with h'
    injection h' with h'
    subst h' h2
    exact ⟨h.1, .inr ⟨g, cap, cur, rfl, e1, box_kept k e2 hgb hT, e3, e4, e5⟩⟩
theorem set_top {xs : List Value} {d : Nat} (hx : xs.length = d * 2) (p u v : Value) : (xs ++ [p, u]).set (d * 2 + 1) v = xs ++ [p, v] := by
  rw [List.set_append_right _ _ (by omega), show d * 2 + 1 - xs.length = 1 by omega]
  rfl
theorem own_top {w : World} {base d g cap : Nat} {e : TypeId} {xs : List Value} {p u : Value} (hx : xs.length = d * 2) (h : w.ownsRow base e 2 (.slice (some ⟨g, 0, none⟩) (d + 1) cap) (d + 1) (xs ++ [p, u])) (v : Value) :
    (w.setCell ⟨g, d * 2 + 1, none⟩ v).ownsRow base e 2 (.slice (some ⟨g, 0, none⟩) (d + 1) cap) (d + 1) (xs ++ [p, v]) := by
  have := (h.stored (d * 2 + 1) v).1
  rw [set_top hx] at this
  exact this

end Go.Proofs.Ytninjljkdbemkaa
