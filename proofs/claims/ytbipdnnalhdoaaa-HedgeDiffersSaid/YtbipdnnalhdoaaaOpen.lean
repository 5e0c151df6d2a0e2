/- Opening a law's arguments: what a slice of bytes, of characters, that came in holds; the step from the walk to the row's post. No condition. -/
import Derived.Test.YtbipdnnalhdoaaaMem
import Derived.ProofKit
import Derived.OpenShut
import Derived.ShutString
import Derived.ChangeOld
import Derived.Carry
namespace Go.Proofs.Ytbipdnnalhdoaaa
open Go.ChangeShapes Go.WideShapes Go.ChangeAt Go.RowKit

section
variable {H : Type} {enc : TypeId × Value → H} {P : Program}
theorem open_row {W : World} {t e : TypeId} {k : IntKind} {v : Value} {d : DataW H} {p : List MemPlace} {b0 : Nat} (ht : P.underlying t = some (.slice e)) (he : P.underlying e = some (.int k)) (hc : P.cellsOf e = 1)
    (hv : Value.okWide P W .any b0 t v) (h : DataW.Trod enc P W 0 (fun _ => true) true t v d p) :
    ∃ (A : Option Addr) (n c : Nat) (zs : List Int), v = .slice A n c ∧ n ≤ c ∧ c ≤ maxLen ∧ Rd W W.heap.size 1 A n (zs.map (Value.int k)) ∧ ∀ z ∈ zs, (Lit.int k z).wf = true := by
  obtain ⟨A, n, c, rfl⟩ := okWide_slice ht hv
  obtain ⟨fuel, hf⟩ := h
  rcases open_ints ht he hc hf with ⟨hcs, _⟩ | ⟨x, l, c', zs, hcs, _, hl, hm, hz, _, hcell, hwz⟩
  · simp [Value.cells] at hcs
    obtain ⟨rfl, rfl, rfl⟩ := hcs
    exact ⟨_, _, _, [], rfl, Nat.le_refl _, Nat.zero_le _, Rd.nil _ _ _ _, by simp⟩
  · simp [Value.cells] at hcs
    obtain ⟨rfl, rfl, rfl⟩ := hcs
    simp only [if_true] at hz
    refine ⟨_, _, _, zs.take n, rfl, hl, hm, ⟨by simp; omega, fun hne => ⟨x, rfl, ?_, fun j u hj => ?_⟩⟩, fun z hz => hwz z (List.mem_of_mem_take hz)⟩
    · have h0 : 0 < zs.length := by
        rcases zs with _ | ⟨z, zs⟩
        · simp at hne
        · simp
      have := World.block_lt_of_cell? W _ (hcell 0 h0)
      rwa [block_add] at this
    · rw [List.getElem?_map, List.getElem?_take] at hj
      split at hj
      · rename_i hjn
        have hjl : j < zs.length := by omega
        rw [hcell j hjl, ← hj, List.getD_eq_getElem?_getD, List.getElem?_eq_getElem hjl]
        rfl
      · cases hj
theorem open_bytes {W : World} {t e : TypeId} {v : Value} {d : DataW H} {p : List MemPlace} {b0 : Nat} (ht : P.underlying t = some (.slice e)) (he : P.underlying e = some (.int .u8)) (hc : P.cellsOf e = 1)
    (hv : Value.okWide P W .any b0 t v) (h : DataW.Trod enc P W 0 (fun _ => true) true t v d p) :
    ∃ (A : Option Addr) (n c : Nat) (l : List UInt8), v = .slice A n c ∧ n ≤ c ∧ c ≤ maxLen ∧ Rd W W.heap.size 1 A n (Lib.byteCells l) := by
  obtain ⟨A, n, c, zs, rfl, h1, h2, h3, h4⟩ := open_row ht he hc hv h
  refine ⟨A, n, c, zs.map fun z => z.toNat.toUInt8, rfl, h1, h2, ?_⟩
  have : Lib.byteCells (zs.map fun z => z.toNat.toUInt8) = zs.map (Value.int .u8) := by
    simp only [Lib.byteCells, List.map_map]
    apply List.map_congr_left
    intro z hz
    have hw := bounds_u8 (h4 z hz)
    simp only [Function.comp]
    congr 1
    simp only [Nat.toUInt8_eq, UInt8.toNat_ofNat']
    omega
  rw [this]
  exact h3
theorem open_runes {W : World} {t e : TypeId} {v : Value} {d : DataW H} {p : List MemPlace} {b0 : Nat} (ht : P.underlying t = some (.slice e)) (he : P.underlying e = some (.int .i32)) (hc : P.cellsOf e = 1)
    (hv : Value.okWide P W .any b0 t v) (h : DataW.Trod enc P W 0 (fun _ => true) true t v d p) :
    ∃ (A : Option Addr) (n c : Nat) (l : List Int), v = .slice A n c ∧ n ≤ c ∧ c ≤ maxLen ∧ Rd W W.heap.size 1 A n (l.map (Value.int .i32)) ∧ ∀ z ∈ l, -2147483648 ≤ z ∧ z ≤ 2147483647 := by
  obtain ⟨A, n, c, zs, rfl, h1, h2, h3, h4⟩ := open_row ht he hc hv h
  exact ⟨A, n, c, zs, rfl, h1, h2, h3, fun z hz => bounds_i32 (h4 z hz)⟩
theorem trod_lt {W : World} {t : TypeId} {v : Value} {d : DataW H} {p : List MemPlace} (h : DataW.Trod enc P W 0 (fun _ => true) true t v d p) : ∀ x ∈ p, x.block < W.heap.size := by
  obtain ⟨m, hm⟩ := h
  exact DataW.trod_lt m _ _ _ hm
end
end Go.Proofs.Ytbipdnnalhdoaaa
