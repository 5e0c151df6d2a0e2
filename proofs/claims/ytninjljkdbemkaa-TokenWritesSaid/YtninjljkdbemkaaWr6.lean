/- The package write: Plain. -/
import Derived.Test.YtninjljkdbemkaaWr5
namespace Go.Proofs.Ytninjljkdbemkaa
open Go.RowKit

structure Pf where
  A : Option Addr
  c : Nat
  rest : List Nd
def pfCells : List Pf → List Value
  | [] => []
  | f :: S => pfCells S ++ [.slice f.A f.rest.length f.c]
def PfOk (w : World) (B : Nat) (f : Pf) : Prop := Nodes w B f.A f.rest.length f.rest ∧ f.rest.length ≤ f.c
def PsOk (w : World) (B : Nat) (S : List Pf) : Prop := ∀ f ∈ S, PfOk w B f
def pfText : List Pf → List UInt8
  | [] => []
  | f :: S => plainL f.rest ++ pfText S
def pfWt : List Pf → Nat
  | [] => 0
  | f :: S => 1 + wtL f.rest + pfWt S
theorem pfCells_length (S : List Pf) : (pfCells S).length = S.length := by
  induction S with
  | nil => rfl
  | cons f S ih => rw [pfCells, List.length_append, ih, List.length_cons]; simp
theorem PfOk.keep {w w' : World} {B : Nat} {f : Pf} (h : PfOk w B f) (hb : Below B w w') : PfOk w' B f := ⟨h.1.below hb, h.2⟩
theorem PsOk.keep {w w' : World} {B : Nat} {S : List Pf} (h : PsOk w B S) (hb : Below B w w') : PsOk w' B S := fun f hf => (h f hf).keep hb
theorem pfWt_le (S : List Pf) : S.length ≤ pfWt S := by
  induction S with
  | nil => simp
  | cons f S ih => rw [pfWt, List.length_cons]; omega
theorem own_top1 {w : World} {base d g cap : Nat} {e : TypeId} {xs : List Value} {u : Value} (hx : xs.length = d) (h : w.ownsRow base e 1 (.slice (some ⟨g, 0, none⟩) (d + 1) cap) (d + 1) (xs ++ [u])) (v : Value) :
    (w.setCell ⟨g, d, none⟩ v).ownsRow base e 1 (.slice (some ⟨g, 0, none⟩) (d + 1) cap) (d + 1) (xs ++ [v]) := by
  have := (h.stored d v).1
  rw [List.set_append_right _ _ (by omega), show d - xs.length = 0 by omega] at this
  exact this

theorem setCell_size (w : World) (p : Addr) (u : Value) : (w.setCell p u).heap.size = w.heap.size := by simp [World.setCell]
theorem infoNs : (Try.prog.info? 22).map (fun i => (i.zero, i.size, i.bytes)) = some (some (.slice none 0 0), 1, 24) := by kernel_rfl
end Go.Proofs.Ytninjljkdbemkaa
