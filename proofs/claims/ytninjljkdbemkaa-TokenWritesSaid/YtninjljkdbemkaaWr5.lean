/- The package write: Text, Length. -/
import Derived.Test.YtninjljkdbemkaaWr4
namespace Go.Proofs.Ytninjljkdbemkaa
open Go.RowKit

theorem Bld.oth {B b : Nat} {l : List UInt8} {w w' : World} {e : TypeId} (h : Bld B b l w) (k : Lib.OthersKept e none w w') (h1 : 60 ≠ e) (h2 : 5 ≠ e) : Bld B b l w' := by
  have key : ∀ p, Lib.BuilderAtF 60 5 B b p (Lib.byteCells l) w → Lib.BuilderAtF 60 5 B b p (Lib.byteCells l) w' := by
    rintro p ⟨hB, v, hb, hown, hne⟩
    refine ⟨hB, v, k b _ hb (by simp) (fun c fz e1 => by injection e1 with _ e2; exact h1 e2), ⟨hown.1, ?_⟩, hne⟩
    rcases hown.2 with h0 | ⟨g, cap, cur, fz, hv, e1, e2, e3⟩
    · exact .inl h0
    · exact .inr ⟨g, cap, cur, fz, hv, e1, k g _ e2 (by simp) (fun c fz e1 => by injection e1 with _ e2; exact h2 e2), e3⟩
  rcases h with h | h
  · exact .inl (key _ h)
  · exact .inr (key _ h)

/-- a call of a function that has a body -/
theorem enters {P : Program} {f : FuncId} {fn : Func} {c : Code} (hf : P.funcs[f]? = some fn) (hname : (fn.name == "runtime.NumGoroutine") = false) (hb : fn.body = some c) (args : Array Value) (w : World) :
    Sem.run P (callFunc f args) w = .ok (.enter f args) w := by
  have h1 : fn.name ≠ "runtime.NumGoroutine" := by simpa using hname
  simp [callFunc, hf, h1, hb]

/-- block b holds the number of the bytes -/
def Num (b : Nat) (l : List UInt8) (w : World) : Prop := w.heap[b]? = some (.cells #[.int .i64 l.length] 3 (0, 0)) ∧ l.length ≤ 200000000
theorem NodeAt.box {w : World} {B : Nat} {n : Nd} {cs : List Value} (h : NIs w B n cs) (hB : B ≤ w.heap.size) (T : TypeId) : NodeAt (w.alloc (.cells cs.toArray T)) (w.heap.size + 1) ⟨w.heap.size, 0, none⟩ n := by
  have hc := fun j => Lib.cell_of_heap (heap_alloc_new w (.cells cs.toArray T)) j
  have hb : Below B w (w.alloc (.cells cs.toArray T)) := (Below.refl B w).alloc hB _
  cases n
  simp only [NIs, NIsP] at h
  obtain ⟨A, n, c, A', n', c', xs, rfl, h1, h2, h3, h4, h5⟩ := h
  refine ⟨by simp, A, n, c, A', n', c', ?_, ?_, ?_, ?_, ?_, h1, ((Rd.below (B := B) h2 hb).more (by omega)), h3, ⟨xs, ((Rd.below (B := B) h4 hb).more (by omega)), NsIs.more (B := B) (by omega) (NsIs.keep (fun p hp => hb.cell hp) h5)⟩⟩
  · rw [hc]; rfl
  all_goals rw [add_pos _ _ (by omega)]; simp only [Nat.zero_add]; rw [hc]; rfl

end Go.Proofs.Ytninjljkdbemkaa
