/- The finder's run. -/
import Derived.Test.YtbipdnnalhdoaaaHk
import Derived.Laws.ResultCell
namespace Go.Proofs.Ytbipdnnalhdoaaa
open Go.RowKit Go.Maps Go.WideMaps
attribute [local go_sem ↓] Go.wp_at_zero Go.wp_at_succ

theorem nodup_le : ∀ (m : Nat) (l : List Nat), l.Nodup → (∀ x ∈ l, x < m) → l.length ≤ m
  | 0, l, _, h => by
    cases l with
    | nil => simp
    | cons a l => have := h a (by simp); omega
  | m + 1, l, hn, h => by
    have h1 := nodup_le m (l.erase m) (hn.erase m) (fun x hx => by
      have h2 := (List.Nodup.mem_erase_iff hn).1 hx
      have := h x h2.2
      omega)
    by_cases hm : m ∈ l
    · rw [List.length_erase_of_mem hm] at h1
      omega
    · rw [List.erase_of_not_mem hm] at h1
      omega
theorem sum_le : ∀ (m : List (List Nat)) (b : Nat), (∀ x ∈ m, x.length ≤ b) → sumL m ≤ m.length * b
  | [], b, _ => by simp [sumL]
  | x :: m, b, h => by
    have h1 := sum_le m b fun y hy => h y (by simp [hy])
    have h2 := h x (by simp)
    unfold sumL at h1 ⊢
    simp only [List.map_cons, List.sum_cons, List.length_cons]
    rw [Nat.add_mul]
    omega
section
variable {M : Mc} {N J cur : Nat} {f f' : FS} {P : Nat → Nat → Nat → Prop} {X : Nat → Nat → Prop}
theorem FInv.few (hO : M.Ok) (hN : N ≤ M.L + 1) (h : FInv M N J cur f P X) : sumL f.met ≤ 40400 ∧ f.trees.length ≤ 400 := by
  constructor
  · have h1 : sumL f.met ≤ f.met.length * 400 := sum_le _ _ fun x hx => by
      obtain ⟨n, hn, rfl⟩ := List.mem_iff_getElem.1 hx
      have hnN : n < N := by rw [← h.ml]; exact hn
      have := nodup_le (M.sz n) _ (h.mnd n hn) fun s hs => by
        obtain ⟨k, hk⟩ := (h.met n hn s).1 hs
        exact (h.lt hO hN hk).2.1
      have := hO.fewS n (by omega)
      omega
    rw [h.ml] at h1
    have := hO.fewL
    have : N * 400 ≤ 101 * 400 := Nat.mul_le_mul_right _ (by omega)
    omega
  · have := nodup_le M.K _ h.tnd fun v hv => by
      obtain ⟨src, hs⟩ := (h.tr v).1 hv
      obtain ⟨h1, h2, k, h3, _⟩ := h.fn v src hs
      rw [← h2]
      exact hO.out _ _ h1 (h.lt hO hN h3).2.1
    have := hO.fewK
    omega
theorem sumL_add {m : List (List Nat)} {n s : Nat} (hn : n < m.length) : sumL (metAdd m n s) = sumL m + 1 := by
  have hp : ∀ (m : List (List Nat)) (n : Nat) (hn : n < m.length), sumL (m.set n (m[n] ++ [s])) = sumL m + 1 := by
    intro m
    induction m with
    | nil => intro n hn; simp at hn
    | cons x m ih =>
      intro n hn
      cases n with
      | zero => simp [sumL]; omega
      | succ n =>
        have := ih n (by simpa using hn)
        simp [sumL] at this ⊢
        omega
  rw [metAdd, show m.getD n [] = m[n] by simp [List.getD, List.getElem?_eq_getElem hn]]
  exact hp m n hn
end
theorem bool_three (a b : Bool) (h : ¬ (a = false ∧ b = false)) : (a = true ∧ b = true) ∨ (a = true ∧ b = false) ∨ (a = false ∧ b = true) := by
  revert h
  cases a <;> cases b <;> simp
/-- how many rounds are left, at most -/
def pot (f : FS) : Nat := 50000 * (40400 - sumL f.met) + f.q.length
/-- no accepting root is done -/
def NoRoot (M : Mc) (f : FS) : Prop := ∀ s k, f.mar M.L s = some (k, true) → M.out M.L s ≠ 1

/-- the result in a cell block -/
theorem ret_stp {f : Func} {p u : Tmp} (h : f.results = #[.cell p 72, .tmp u]) {a : Act} {w : World} {g : Nat} {v0 v1 v2 v3 v4 x : Value} {R : Ending → World → Prop} (hp : a.tmps.getD p undef = .pointer (some ⟨g, 0, none⟩)) (hx : a.tmps.getD u undef = x) (hd : a.defers = [])
    (hg : w.heap[g]? = some (.cells #[v0, v1, v2, v3, v4] 72 (0, 0))) (hR : R (.returned (.tuple #[.agg #[v0, v1, v2, v3, v4], x])) w) : bodyPost Try.prog f R .ret a w := by
  have hc := fun j => Lib.cell_of_heap hg j
  have c0 := hc 0
  have c1 := hc 1
  have c2 := hc 2
  have c3 := hc 3
  have c4 := hc 4
  simp only [List.getElem?_toArray, List.getElem?_cons_zero, List.getElem?_cons_succ] at c0 c1 c2 c3 c4
  refine bodyPost_ret (v := .tuple #[.agg #[v0, v1, v2, v3, v4], x]) ?_ hd hR
  rw [results_cell_tmp h, hp, hx]
  go_simp
theorem stp_stored {w : World} {g : Nat} {a b c d e : Value} {T : TypeId} (h : w.heap[g]? = some (.cells #[a, b, c, d, e] T (0, 0))) (v0 v1 v2 v3 v4 : Value) :
    (((((w.setCell ⟨g, 0, none⟩ v0).setCell ⟨g, 1, none⟩ v1).setCell ⟨g, 2, none⟩ v2).setCell ⟨g, 3, none⟩ v3).setCell ⟨g, 4, none⟩ v4).heap[g]? = some (.cells #[v0, v1, v2, v3, v4] T (0, 0)) := by
  have h0 := heap_setCell_same w g 0 _ _ v0 h
  have h1 := heap_setCell_same _ g 1 _ _ v1 h0
  have h2 := heap_setCell_same _ g 2 _ _ v2 h1
  have h3 := heap_setCell_same _ g 3 _ _ v3 h2
  have h4 := heap_setCell_same _ g 4 _ _ v4 h3
  simpa using h4
/-- a block that is not the finder's is written -/
theorem FIs.far {w : World} {own : FOwn} {base fb mm mf g : Nat} {mv : Value} {f : FS} (h : FIs w own base fb mm mf mv f) (hg : own g = none) (v0 v1 v2 v3 v4 : Value) :
    FIs (((((w.setCell ⟨g, 0, none⟩ v0).setCell ⟨g, 1, none⟩ v1).setCell ⟨g, 2, none⟩ v2).setCell ⟨g, 3, none⟩ v3).setCell ⟨g, 4, none⟩ v4) own base fb mm mf mv f := by
  refine h.keep (by simp only [size_set]; exact Nat.le_refl _) fun q r hq => ?_
  have hne : q ≠ g := fun e => by rw [e, hg] at hq; cases hq
  rw [heap_set_other (p := ⟨g, 4, none⟩) hne, heap_set_other (p := ⟨g, 3, none⟩) hne, heap_set_other (p := ⟨g, 2, none⟩) hne, heap_set_other (p := ⟨g, 1, none⟩) hne, heap_set_other (p := ⟨g, 0, none⟩) hne]
/-- .. a new block -/
theorem FStep.far1 {w w' : World} {own own' : FOwn} {p : Addr} (h : FStep w w' own own') (hg : w.heap.size ≤ p.block) (v : Value) : FStep w (w'.setCell p v) own own' :=
  ⟨⟨h.kb.os, h.kb.tape, h.kb.output, by rw [size_set]; exact h.kb.size, fun q hq hn => (heap_set_other (by omega)).trans (h.kb.block q hq hn)⟩, h.le, h.inv⟩
theorem FStep.far {w w' : World} {own own' : FOwn} {g : Nat} (h : FStep w w' own own') (hg : w.heap.size ≤ g) (v0 v1 v2 v3 v4 : Value) :
    FStep w (((((w'.setCell ⟨g, 0, none⟩ v0).setCell ⟨g, 1, none⟩ v1).setCell ⟨g, 2, none⟩ v2).setCell ⟨g, 3, none⟩ v3).setCell ⟨g, 4, none⟩ v4) own own' :=
  ((((h.far1 (p := ⟨g, 0, none⟩) hg v0).far1 (p := ⟨g, 1, none⟩) hg v1).far1 (p := ⟨g, 2, none⟩) hg v2).far1 (p := ⟨g, 3, none⟩) hg v3).far1 (p := ⟨g, 4, none⟩) hg v4
/-- what run tells -/
def RunOut (M : Mc) (N : Nat) (f' : FS) (e : Ending) : Prop :=
  (∃ (s : Stp) (fx : FS) (P : Nat → Nat → Nat → Prop) (X : Nat → Nat → Prop), e = .returned (.tuple #[.agg #[.int .i64 (s.num : Int), .int .i64 (s.st : Int), .int .i64 (s.cost : Int), .int .i64 s.frm, .int .i64 s.tree], .bool true]) ∧ FInv M N N s.cost fx P X ∧ fx.mar = f'.mar ∧ fx.fnd = f'.fnd ∧
    f'.mar s.num s.st = some (s, true) ∧ s.num = M.L ∧ M.out M.L s.st = 1 ∧ ∀ s' c, Rd' M N M.L s' c → M.out M.L s' = 1 → s.cost ≤ c) ∨
  (∃ cur, e = .returned (.tuple #[.agg #[.int .i64 0, .int .i64 0, .int .i64 0, .int .i64 0, .int .i64 0], .bool false]) ∧ FInv M N N cur f' (fun _ _ _ => False) (fun _ _ => False) ∧ f'.q = [] ∧ NoRoot M f')
end Go.Proofs.Ytbipdnnalhdoaaa
