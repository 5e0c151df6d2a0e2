/- strainerlaw04: lives; the law WriteGrows. The law WriteGrows. -/
import Derived.Test.YtninjljkdbemkaaWr6
import Derived.Test.YtninjljkdbemkaaRe
import Derived.Test.YtninjljkdbemkaaRf3
namespace Go.Proofs.Ytninjljkdbemkaa
open Go.RowKit

theorem Nodes.lit {w : World} {l : List Nd} {xs : List Value} (h : NsIs w w.heap.size l xs) (T : TypeId) : Nodes (w.alloc (.cells xs.toArray T)) (w.heap.size + 1) (some ⟨w.heap.size, 0, none⟩) l.length l := by
  have hb : Below w.heap.size w (w.alloc (.cells xs.toArray T)) := (Below.refl _ w).alloc (Nat.le_refl _) _
  refine ⟨xs, ⟨h.len, fun _ => ⟨_, rfl, by simp, fun j u hu => ?_⟩⟩, NsIs.more (B := w.heap.size) (by omega) (NsIs.keep (fun p hp => hb.cell hp) h)⟩
  exact World.news_of_block (fr := (0, 0)) (heap_alloc_new w _) j u (by simpa using hu)
theorem Atrs.lit {w : World} (l : List Atr) (T : TypeId) : Atrs (w.alloc (.cells (atrCells l).toArray T)) (w.heap.size + 1) (some ⟨w.heap.size, 0, none⟩) l.length l := by
  refine ⟨atrCells_length l, fun _ => ⟨_, rfl, by simp, fun j u hu => ?_⟩⟩
  exact World.news_of_block (fr := (0, 0)) (heap_alloc_new w _) j u (by simpa using hu)
theorem Atrs.none_ (w : World) (B : Nat) (A : Option Addr) : Atrs w B A 0 [] := Rd.nil w B 2 A
theorem Atrs.keep {w w' : World} {B B' n : Nat} {A : Option Addr} {l : List Atr} (h : Atrs w B A n l) (hb : Below B w w') (hB : B ≤ B') : Atrs w' B' A n l := (Rd.below h hb).more hB
theorem Nodes.up {w w' : World} {B B' n : Nat} {A : Option Addr} {l : List Nd} (h : Nodes w B A n l) (hb : Below B w w') (hB : B ≤ B') : Nodes w' B' A n l := (h.below hb).more hB

/-- an element with one attribute and one text within -/
theorem nodes_three (w : World) (nm an av tx : List UInt8) :
    Nodes (((w.alloc (.cells #[sv an, sv av] 40)).alloc (.cells #[.int .i64 2, sv [], .slice none 0 0, sv tx, .slice none 0 0] 28)).alloc
      (.cells #[.int .i64 1, sv nm, .slice (some ⟨w.heap.size, 0, none⟩) 1 1, sv [], .slice (some ⟨w.heap.size + 1, 0, none⟩) 1 1] 28)) (w.heap.size + 3) (some ⟨w.heap.size + 2, 0, none⟩) 1 [.mk 1 nm [(an, av)] [] [.mk 2 [] [] tx []]] := by
  have h1 := Atrs.lit (w := w) [(an, av)] 40
  have h2 := Nodes.lit (w := w.alloc (.cells #[sv an, sv av] 40)) (NsIs.single (NIs.mk' (k := 2) (nm := []) (ats := []) (tx := tx) (kids := []) (Nat.le_refl 0) (Atrs.none_ _ _ none) (Nat.le_refl 0) (Nodes.nil _ _ none))) 28
  have hb : Below (w.heap.size + 1) (w.alloc (.cells #[sv an, sv av] 40)) ((w.alloc (.cells #[sv an, sv av] 40)).alloc (.cells #[.int .i64 2, sv [], .slice none 0 0, sv tx, .slice none 0 0] 28)) := (Below.refl _ _).alloc (by simp) _
  have h3 := Nodes.lit (w := (w.alloc (.cells #[sv an, sv av] 40)).alloc (.cells #[.int .i64 2, sv [], .slice none 0 0, sv tx, .slice none 0 0] 28))
    (NsIs.single (NIs.mk' (k := 1) (nm := nm) (ats := [(an, av)]) (tx := []) (kids := [.mk 2 [] [] tx []]) (Nat.le_refl 1) (h1.keep hb (by simp)) (Nat.le_refl 1) (h2.more (by simp)))) 28
  simpa using h3
theorem nodes_one (w : World) (k : Int) (nm tx : List UInt8) :
    Nodes (w.alloc (.cells #[.int .i64 k, sv nm, .slice none 0 0, sv tx, .slice none 0 0] 28)) (w.heap.size + 1) (some ⟨w.heap.size, 0, none⟩) 1 [.mk k nm [] tx []] :=
  Nodes.lit (w := w) (NsIs.single (NIs.mk' (k := k) (nm := nm) (ats := []) (tx := tx) (kids := []) (Nat.le_refl 0) (Atrs.none_ _ _ none) (Nat.le_refl 0) (Nodes.nil _ _ none))) 28

theorem lives4_text : textL [.mk 1 [97] [([104, 114, 101, 102], [120, 38, 121])] [] [.mk 2 [] [] [49, 32, 60, 32, 50] []]] = [60, 97, 32, 104, 114, 101, 102, 61, 34, 120, 38, 97, 109, 112, 59, 121, 34, 62, 49, 32, 38, 108, 116, 59, 32, 50, 60, 47, 97, 62] := by decide +kernel
theorem lives4_plain : plainL [.mk 1 [97] [([104, 114, 101, 102], [120, 38, 121])] [] [.mk 2 [] [] [49, 32, 60, 32, 50] []]] = [49, 32, 60, 32, 50] := by decide +kernel
theorem lives4_wt : wtL [.mk 1 [97] [([104, 114, 101, 102], [120, 38, 121])] [] [.mk 2 [] [] [49, 32, 60, 32, 50] []]] ≤ 1000000 := by decide +kernel

end Go.Proofs.Ytninjljkdbemkaa
namespace Go.Proofs.Ytninjljkdbemkaa
open Go.RowKit

/-- a slice cut to its first K elements, as 'if len(a) > K { a = a[:K] }' leaves it -/
theorem cut_to {w : World} {B n : Nat} {A : Option Addr} {l : List UInt8} (K : Nat) (hr : Rd w B 1 A n (Lib.byteCells l)) :
    ∃ n1, n1 ≤ K ∧ Rd w B 1 A n1 (Lib.byteCells (l.take K)) ∧ ((n ≤ K ∧ n1 = n) ∨ (¬ n ≤ K ∧ n1 = K ∧ ∃ a, A = some a)) := by
  by_cases hn : n ≤ K
  · refine ⟨n, hn, ?_, .inl ⟨hn, rfl⟩⟩
    have hl := hr.len
    rw [Lib.byteCells_length] at hl
    rw [List.take_of_length_le (by omega)]; exact hr
  · refine ⟨K, Nat.le_refl _, ?_, .inr ⟨hn, rfl, ?_⟩⟩
    · have := hr.take (k := K) (by omega)
      rwa [Nat.mul_one, byteCells_take] at this
    · obtain ⟨a, e, _⟩ := hr.2 (by
        intro e
        have := hr.len
        rw [e] at this
        simp at this
        omega)
      exact ⟨a, e⟩

theorem len_take (l : List UInt8) (k : Nat) : (l.take k).length ≤ k := List.length_take_le _ _

theorem cat_str (a b : List UInt8) : (⟨a.toArray⟩ : ByteArray) ++ ⟨b.toArray⟩ = ⟨(a ++ b).toArray⟩ := by
  apply ByteArray.ext
  simp
theorem grows_bare : textL [.mk 1 [98] [] [] []] = [60, 98, 62, 60, 47, 98, 62] := by decide +kernel
theorem grows_more (v t : List UInt8) : textL [.mk 1 [98] [([105, 100], v)] [] [.mk 2 [] [] t []]] = [60, 98, 32, 105, 100, 61, 34] ++ (esc true v ++ ([34, 62] ++ (esc false t ++ [60, 47, 98, 62]))) := by
  simp [textL, kidsL, oneL, opL, clL, atrL, voidL, rawL, Nd.kind, Nd.name, Nd.attrs]

theorem grows_len (v t : List UInt8) : ((textL [.mk 1 [98] [([105, 100], v)] [] [.mk 2 [] [] t []]]).length : Int) = (textL [.mk 1 [98] [] [] []]).length + 6 + (esc true v).length + (esc false t).length := by
  rw [grows_more, grows_bare]
  simp only [List.length_append, List.length_cons, List.length_nil]
  omega
end Go.Proofs.Ytninjljkdbemkaa
