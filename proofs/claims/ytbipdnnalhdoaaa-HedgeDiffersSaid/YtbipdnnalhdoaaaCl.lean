/- Values of numbers and slices as trees, and how they lie in memory; rows of them that a call makes itself. -/
import Derived.Test.YtbipdnnalhdoaaaOw
namespace Go.Proofs.Ytbipdnnalhdoaaa
open Go.RowKit

/-- a cell: a number, or a slice of n elements of z cells each -/
inductive Cl where
  | i (n : Int)
  | s (z n : Nat) (cs : List Cl)
/-- a length and a capacity -/
def Cap (n c : Nat) : Prop := n ≤ c ∧ c ≤ 9223372036854775807
theorem Cap.len {n c : Nat} (h : Cap n c) : n ≤ 9223372036854775807 := Nat.le_trans h.1 h.2
mutual
def CIsP (w : World) (S : Nat → Prop) : Cl → Value → Prop
  | .i n, v => v = .int .i64 n
  | .s z n cs, v => ∃ A c xs, v = .slice A n c ∧ Cap n c ∧ RdP w S z A n xs ∧ CsIsP w S cs xs
def CsIsP (w : World) (S : Nat → Prop) : List Cl → List Value → Prop
  | [], xs => xs = []
  | c :: l, xs => ∃ v ys, xs = v :: ys ∧ CIsP w S c v ∧ CsIsP w S l ys
end
/-- THE SLICE '.slice A n c' READS AS THE CELLS cs, z cells an element, all of it in blocks of which S holds -/
def SlP (w : World) (S : Nat → Prop) (z : Nat) (A : Option Addr) (n : Nat) (cs : List Cl) : Prop := ∃ xs, RdP w S z A n xs ∧ CsIsP w S cs xs
/-- .. all of it below block B -/
abbrev Sl (w : World) (B : Nat) (z : Nat) (A : Option Addr) (n : Nat) (cs : List Cl) : Prop := SlP w (fun b => b < B) z A n cs

section
variable {w w' : World} {S S' : Nat → Prop}
mutual
theorem CIsP.keep (hk : ∀ p : Addr, S p.block → w'.cell? p = w.cell? p) : ∀ {c : Cl} {v : Value}, CIsP w S c v → CIsP w' S c v
  | .i _, _, h => by simp only [CIsP] at h ⊢; exact h
  | .s _ _ cs, _, h => by
    simp only [CIsP] at h ⊢
    obtain ⟨A, c, xs, e, h1, h2, h3⟩ := h
    exact ⟨A, c, xs, e, h1, h2.keep hk, CsIsP.keep hk h3⟩
theorem CsIsP.keep (hk : ∀ p : Addr, S p.block → w'.cell? p = w.cell? p) : ∀ {l : List Cl} {xs : List Value}, CsIsP w S l xs → CsIsP w' S l xs
  | [], _, h => by simp only [CsIsP] at h ⊢; exact h
  | _ :: _, _, h => by
    simp only [CsIsP] at h ⊢
    obtain ⟨v, ys, e, h1, h2⟩ := h
    exact ⟨v, ys, e, CIsP.keep hk h1, CsIsP.keep hk h2⟩
end
mutual
theorem CIsP.more (hS : ∀ b, S b → S' b) : ∀ {c : Cl} {v : Value}, CIsP w S c v → CIsP w S' c v
  | .i _, _, h => by simp only [CIsP] at h ⊢; exact h
  | .s _ _ cs, _, h => by
    simp only [CIsP] at h ⊢
    obtain ⟨A, c, xs, e, h1, h2, h3⟩ := h
    exact ⟨A, c, xs, e, h1, h2.more hS, CsIsP.more hS h3⟩
theorem CsIsP.more (hS : ∀ b, S b → S' b) : ∀ {l : List Cl} {xs : List Value}, CsIsP w S l xs → CsIsP w S' l xs
  | [], _, h => by simp only [CsIsP] at h ⊢; exact h
  | _ :: _, _, h => by
    simp only [CsIsP] at h ⊢
    obtain ⟨v, ys, e, h1, h2⟩ := h
    exact ⟨v, ys, e, CIsP.more hS h1, CsIsP.more hS h2⟩
end
theorem CIsP.one {c : Cl} {v : Value} (h : CIsP w S c v) : v.oneCell' = true := by
  cases c with
  | i n => simp only [CIsP] at h; subst h; rfl
  | s z n cs => simp only [CIsP] at h; obtain ⟨A, c, xs, rfl, _⟩ := h; rfl
theorem CsIsP.len {l : List Cl} {xs : List Value} (h : CsIsP w S l xs) : xs.length = l.length := by
  induction l generalizing xs with
  | nil => simp only [CsIsP] at h; subst h; rfl
  | cons c l ih => simp only [CsIsP] at h; obtain ⟨v, ys, rfl, h1, h2⟩ := h; simp [ih h2]
theorem CsIsP.one {l : List Cl} {xs : List Value} (h : CsIsP w S l xs) : ∀ u ∈ xs, u.oneCell' = true := by
  induction l generalizing xs with
  | nil => simp only [CsIsP] at h; subst h; intro u hu; cases hu
  | cons c l ih =>
    simp only [CsIsP] at h
    obtain ⟨v, ys, rfl, h1, h2⟩ := h
    intro u hu
    rcases List.mem_cons.1 hu with rfl | hu
    · exact h1.one
    · exact ih h2 u hu
theorem CsIsP.append {l m : List Cl} {xs ys : List Value} (h : CsIsP w S l xs) (h' : CsIsP w S m ys) : CsIsP w S (l ++ m) (xs ++ ys) := by
  induction l generalizing xs with
  | nil => simp only [CsIsP] at h; subst h; exact h'
  | cons c l ih =>
    simp only [CsIsP] at h
    obtain ⟨v, zs, rfl, h1, h2⟩ := h
    rw [List.cons_append, List.cons_append]
    simp only [CsIsP]
    exact ⟨v, _, rfl, h1, ih h2⟩
theorem CsIsP.nil (w : World) (S : Nat → Prop) : CsIsP w S [] [] := by simp only [CsIsP]
theorem CsIsP.cons {c : Cl} {v : Value} {l : List Cl} {xs : List Value} (h : CIsP w S c v) (h' : CsIsP w S l xs) : CsIsP w S (c :: l) (v :: xs) := by
  simp only [CsIsP]; exact ⟨v, xs, rfl, h, h'⟩
theorem CsIsP.at_ {l : List Cl} {xs : List Value} (h : CsIsP w S l xs) {k : Nat} {c : Cl} (hk : l[k]? = some c) : ∃ v, xs[k]? = some v ∧ CIsP w S c v := by
  induction l generalizing xs k with
  | nil => simp at hk
  | cons c' l ih =>
    simp only [CsIsP] at h
    obtain ⟨v, ys, rfl, h1, h2⟩ := h
    cases k with
    | zero => simp at hk; subst hk; exact ⟨v, rfl, h1⟩
    | succ k => exact ih h2 (by simpa using hk)
theorem CsIsP.take {l : List Cl} {xs : List Value} (h : CsIsP w S l xs) (k : Nat) : CsIsP w S (l.take k) (xs.take k) := by
  induction l generalizing xs k with
  | nil => simp only [CsIsP] at h; subst h; simp [CsIsP]
  | cons c l ih =>
    simp only [CsIsP] at h
    obtain ⟨v, ys, rfl, h1, h2⟩ := h
    cases k with
    | zero => simp [CsIsP]
    | succ k => rw [List.take_succ_cons, List.take_succ_cons]; exact CsIsP.cons h1 (ih h2 k)
theorem CsIsP.drop {l : List Cl} {xs : List Value} (h : CsIsP w S l xs) (k : Nat) : CsIsP w S (l.drop k) (xs.drop k) := by
  induction l generalizing xs k with
  | nil => simp only [CsIsP] at h; subst h; simp [CsIsP]
  | cons c l ih =>
    simp only [CsIsP] at h
    obtain ⟨v, ys, rfl, h1, h2⟩ := h
    cases k with
    | zero => simpa using CsIsP.cons h1 h2
    | succ k => rw [List.drop_succ_cons, List.drop_succ_cons]; exact ih h2 k
theorem CsIsP.set {l : List Cl} {xs : List Value} (h : CsIsP w S l xs) {c : Cl} {v : Value} (hc : CIsP w S c v) (k : Nat) : CsIsP w S (l.set k c) (xs.set k v) := by
  induction l generalizing xs k with
  | nil => simp only [CsIsP] at h; subst h; simp [CsIsP]
  | cons c' l ih =>
    simp only [CsIsP] at h
    obtain ⟨v', ys, rfl, h1, h2⟩ := h
    cases k with
    | zero => exact CsIsP.cons hc h2
    | succ k => exact CsIsP.cons h1 (ih h2 k)
theorem CIsP.int (w : World) (S : Nat → Prop) (n : Int) : CIsP w S (.i n) (.int .i64 n) := by simp only [CIsP]
theorem CIsP.isInt {n : Int} {v : Value} (h : CIsP w S (.i n) v) : v = .int .i64 n := by simpa only [CIsP] using h
theorem CIsP.isSl {z n : Nat} {cs : List Cl} {v : Value} (h : CIsP w S (.s z n cs) v) : ∃ A c, v = .slice A n c ∧ Cap n c ∧ SlP w S z A n cs := by
  simp only [CIsP] at h
  obtain ⟨A, c, xs, e, h1, h2, h3⟩ := h
  exact ⟨A, c, e, h1, xs, h2, h3⟩
theorem CIsP.sl {z n c : Nat} {A : Option Addr} {cs : List Cl} (h : SlP w S z A n cs) (hc : Cap n c) : CIsP w S (.s z n cs) (.slice A n c) := by
  obtain ⟨xs, h1, h2⟩ := h
  simp only [CIsP]
  exact ⟨A, c, xs, rfl, hc, h1, h2⟩
theorem CsIsP.ints (w : World) (S : Nat → Prop) : ∀ l : List Int, CsIsP w S (l.map .i) (l.map (.int .i64 ·))
  | [] => CsIsP.nil w S
  | n :: l => CsIsP.cons (CIsP.int w S n) (CsIsP.ints w S l)
theorem CsIsP.isInts : ∀ {l : List Int} {xs : List Value}, CsIsP w S (l.map .i) xs → xs = l.map (.int .i64 ·)
  | [], xs, h => by simpa [CsIsP] using h
  | n :: l, xs, h => by
    simp only [List.map_cons, CsIsP] at h ⊢
    obtain ⟨v, ys, rfl, h1, h2⟩ := h
    rw [h1.isInt, CsIsP.isInts h2]

section
variable {z n : Nat} {A : Option Addr} {cs : List Cl}
theorem SlP.keep (h : SlP w S z A n cs) (hk : ∀ p : Addr, S p.block → w'.cell? p = w.cell? p) : SlP w' S z A n cs := by
  obtain ⟨xs, h1, h2⟩ := h
  exact ⟨xs, h1.keep hk, h2.keep hk⟩
theorem SlP.more (h : SlP w S z A n cs) (hS : ∀ b, S b → S' b) : SlP w S' z A n cs := by
  obtain ⟨xs, h1, h2⟩ := h
  exact ⟨xs, h1.more hS, h2.more hS⟩
theorem SlP.len (h : SlP w S z A n cs) : cs.length = n * z := by
  obtain ⟨xs, h1, h2⟩ := h
  rw [← h2.len]; exact h1.1
theorem SlP.nil (w : World) (S : Nat → Prop) (z : Nat) (A : Option Addr) : SlP w S z A 0 [] := ⟨[], RdP.nil w S z A, CsIsP.nil w S⟩
/-- the cell k -/
theorem SlP.at_ (h : SlP w S z A n cs) {k : Nat} {c : Cl} (hk : cs[k]? = some c) : ∃ a v, A = some a ∧ S a.block ∧ w.cell? (a.add k) = some v ∧ CIsP w S c v := by
  obtain ⟨xs, h1, h2⟩ := h
  obtain ⟨v, h3, h4⟩ := h2.at_ hk
  obtain ⟨a, e, hS, hc⟩ := h1.2 (fun e => by rw [e] at h3; simp at h3)
  exact ⟨a, v, e, hS, hc k v h3, h4⟩
theorem SlP.atInt (h : SlP w S z A n cs) {k : Nat} {i : Int} (hk : cs[k]? = some (.i i)) : ∃ a, A = some a ∧ S a.block ∧ w.cell? (a.add k) = some (.int .i64 i) := by
  obtain ⟨a, v, h1, h2, h3, h4⟩ := h.at_ hk
  rw [h4.isInt] at h3
  exact ⟨a, h1, h2, h3⟩
theorem SlP.atSl (h : SlP w S z A n cs) {k z' n' : Nat} {cs' : List Cl} (hk : cs[k]? = some (.s z' n' cs')) : ∃ a A' c', A = some a ∧ S a.block ∧ w.cell? (a.add k) = some (.slice A' n' c') ∧ Cap n' c' ∧ SlP w S z' A' n' cs' := by
  obtain ⟨a, v, h1, h2, h3, h4⟩ := h.at_ hk
  obtain ⟨A', c', rfl, h5, h6⟩ := h4.isSl
  exact ⟨a, A', c', h1, h2, h3, h5, h6⟩
theorem SlP.take (h : SlP w S z A n cs) {k : Nat} (hk : k ≤ n) : SlP w S z A k (cs.take (k * z)) := by
  obtain ⟨xs, h1, h2⟩ := h
  refine ⟨xs.take (k * z), ⟨?_, fun hne => ?_⟩, h2.take _⟩
  · rw [List.length_take, h1.1]
    exact Nat.min_eq_left (Nat.mul_le_mul_right _ hk)
  · obtain ⟨a, e, hS, hc⟩ := h1.2 (fun e => hne (by rw [e]; simp))
    refine ⟨a, e, hS, fun j u hu => hc j u ?_⟩
    rw [List.getElem?_take] at hu
    split at hu
    · exact hu
    · cases hu
end
end
section
variable {w w' : World} {B B' z n : Nat} {A : Option Addr} {cs : List Cl}
theorem Sl.below (h : Sl w B z A n cs) (hb : Below B w w') : Sl w' B z A n cs := SlP.keep h fun _ hp => hb.cell hp
theorem Sl.less (h : Sl w B z A n cs) (hB : B ≤ B') : Sl w B' z A n cs := SlP.more h fun _ hb => Nat.lt_of_lt_of_le hb hB
theorem Sl.on (h : Sl w w.heap.size z A n cs) (hb : Below w.heap.size w w') : Sl w' w'.heap.size z A n cs := (h.below hb).less hb.size
end

/-- A ROW OF THE CALL'S OWN: what lies beneath it is the call's own too, and no block of it is the row's -/
def OwnC (w : World) (base : Nat) (e : TypeId) (z : Nat) (A : Option Addr) (n c : Nat) (cs : List Cl) : Prop := ∃ xs, w.ownsRow base e z (.slice A n c) n xs ∧ CsIsP w (Apart base w (.slice A n c)) cs xs
section
variable {w w' : World} {base z n c : Nat} {e : TypeId} {A : Option Addr} {cs : List Cl}
theorem OwnC.nil (w : World) (base : Nat) (e : TypeId) (z : Nat) : OwnC w base e z none 0 0 [] := ⟨[], ⟨by simp, .inl ⟨rfl, rfl⟩⟩, CsIsP.nil _ _⟩
theorem OwnC.below (h : OwnC w base e z A n c cs) (hb : Below w.heap.size w w') : OwnC w' base e z A n c cs := by
  obtain ⟨xs, h1, h2⟩ := h
  refine ⟨xs, ?_, (h2.keep fun p hp => hb.cell hp.2.1).more fun b hb' => ⟨hb'.1, Nat.lt_of_lt_of_le hb'.2.1 hb.size, hb'.2.2⟩⟩
  refine ⟨h1.1, ?_⟩
  rcases h1.2 with h0 | ⟨g, cap, cur, hv, hb2, hg, rest⟩
  · exact .inl h0
  · exact .inr ⟨g, cap, cur, hv, hb2, (hb.block g (Array.getElem?_eq_some_iff.1 hg).1).trans hg, rest⟩
theorem OwnC.sl (h : OwnC w base e z A n c cs) : SlP w (fun b => base ≤ b ∧ b < w.heap.size) z A n cs := by
  obtain ⟨xs, h1, h2⟩ := h
  exact ⟨xs, RdP.of_own h1, h2.more fun b hb => ⟨hb.1, hb.2.1⟩⟩
theorem OwnC.len (h : OwnC w base e z A n c cs) : cs.length = n * z := h.sl.len
theorem own_cap {xs : List Value} (h : w.ownsRow base e z (.slice A n c) n xs) : Cap n c := by
  rcases h.2 with ⟨h0, _⟩ | ⟨g, cap, cur, hv, _, _, hn, hm, _⟩
  · injection h0 with _ h0 h9; exact ⟨by omega, by omega⟩
  · injection hv with _ _ hv; subst hv; exact ⟨hn, hm⟩
theorem OwnC.le (h : OwnC w base e z A n c cs) : Cap n c := by
  obtain ⟨xs, h1, _⟩ := h
  exact own_cap h1
theorem OwnC.far (h : OwnC w base e z A n c cs) (hs : w.heap.size ≤ w'.heap.size) (hk : ∀ q, base ≤ q → q < w.heap.size → w'.heap[q]? = w.heap[q]?) : OwnC w' base e z A n c cs := by
  obtain ⟨xs, h1, h2⟩ := h
  refine ⟨xs, ⟨h1.1, ?_⟩, (h2.keep fun p hp => World.cell?_of_block (hk p.block hp.1 hp.2.1)).more fun b hb' => ⟨hb'.1, Nat.lt_of_lt_of_le hb'.2.1 hs, hb'.2.2⟩⟩
  rcases h1.2 with h0 | ⟨g, cap, cur, hv, hb2, hg, rest⟩
  · exact .inl h0
  · exact .inr ⟨g, cap, cur, hv, hb2, (hk g hb2 (Array.getElem?_eq_some_iff.1 hg).1).trans hg, rest⟩
/-- an element more -/
theorem OwnC.push {xs news : List Value} {A' : Option Addr} {c' : Nat} {ns : List Cl} (h2 : CsIsP w (Apart base w (.slice A n c)) cs xs) (ho : w'.ownsRow base e z (.slice A' (n + 1) c') (n + 1) (xs ++ news)) (hg : w.grownBy w' (Value.slice A n c).ownBlock)
    (hat : ∀ g, (Value.slice A' (n + 1) c').ownBlock = some g → (Value.slice A n c).ownBlock = some g ∨ w.heap.size ≤ g) (hn : CsIsP w (Apart base w (.slice A n c)) ns news) : OwnC w' base e z A' (n + 1) c' (cs ++ ns) := by
  refine ⟨_, ho, ((h2.append hn).keep fun p hp => World.cell?_of_block (hg.block p.block hp.2.1 (fun e => hp.2.2 e.symm))).more fun b hb => ⟨hb.1, Nat.lt_of_lt_of_le hb.2.1 hg.size, fun e => ?_⟩⟩
  rcases hat b e with h4 | h4
  · exact hb.2.2 h4
  · have := hb.2.1; omega
end

theorem apart_below {w w' : World} {lo : Nat} {v : Value} {cs : List Cl} {xs : List Value} (h : CsIsP w (Apart lo w v) cs xs) (hb : Below w.heap.size w w') : CsIsP w' (Apart lo w' v) cs xs :=
  (h.keep fun p hp => hb.cell hp.2.1).more fun b hb' => ⟨hb'.1, Nat.lt_of_lt_of_le hb'.2.1 hb.size, hb'.2.2⟩

/-- the cells of a list of things of z cells each -/
theorem flat_len {α : Type} {f : α → List Cl} {z : Nat} (hz : ∀ x, (f x).length = z) : ∀ l : List α, (l.flatMap f).length = l.length * z
  | [] => by simp
  | x :: l => by rw [List.flatMap_cons, List.length_append, hz, flat_len hz l, List.length_cons, Nat.add_mul]; omega
theorem flat_at {α : Type} {f : α → List Cl} {z : Nat} (hz : ∀ x, (f x).length = z) : ∀ {l : List α} {k r : Nat} {x : α}, l[k]? = some x → r < z → (l.flatMap f)[k * z + r]? = (f x)[r]?
  | [], k, r, x, hk, _ => by simp at hk
  | y :: l, 0, r, x, hk, hr => by
    simp at hk
    subst hk
    rw [List.flatMap_cons, List.getElem?_append_left (by rw [hz]; omega), Nat.zero_mul, Nat.zero_add]
  | y :: l, k + 1, r, x, hk, hr => by
    rw [List.flatMap_cons, List.getElem?_append_right (by rw [hz, Nat.add_mul]; omega), hz, show (k + 1) * z + r - z = k * z + r by rw [Nat.add_mul]; omega]
    exact flat_at hz (by simpa using hk) hr
theorem flat_take {α : Type} {f : α → List Cl} {z : Nat} (hz : ∀ x, (f x).length = z) : ∀ (l : List α) (k : Nat), (l.flatMap f).take (k * z) = (l.take k).flatMap f
  | [], k => by simp
  | y :: l, 0 => by simp
  | y :: l, k + 1 => by
    rw [List.flatMap_cons, show (k + 1) * z = (f y).length + k * z by rw [hz, Nat.add_mul]; omega, List.take_length_add_append, flat_take hz l k, List.take_succ_cons, List.flatMap_cons]
end Go.Proofs.Ytbipdnnalhdoaaa
