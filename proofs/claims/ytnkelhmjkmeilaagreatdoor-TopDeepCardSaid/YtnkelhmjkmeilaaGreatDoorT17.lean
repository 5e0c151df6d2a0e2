/- Values of numbers and slices as trees, and how they lie in memory; rows of them that a call makes itself. container/heap over a queue of steps. -/
import Derived.Test.YtnkelhmjkmeilaaGreatDoorT09
import Derived.Test.YtnkelhmjkmeilaaGreatDoorT16
section
namespace Go.Proofs.YtnkelhmjkmeilaaGreatDoor.H
open Go.RowKit
inductive Cl where
  | i (n : Int)
  | s (z n : Nat) (cs : List Cl)
def Cap (n c : Nat) : Prop := n ≤ c ∧ c ≤ 9223372036854775807
theorem Cap.len {n c : Nat} (h : Cap n c) : n ≤ 9223372036854775807 := Nat.le_trans h.1 h.2
mutual
def CIsP (w : World) (S : Nat → Prop) : Cl → Value → Prop
  | .i n, v => v = .int .i64 n
  | .s z n cs, v => ∃ A c xs, v = .slice A n c ∧ Cap n c ∧ RdP w S z A n xs ∧ CsIsP w S cs xs
def CsIsP (w : World) (S : Nat → Prop) : List Cl → List Value → Prop
  | [], xs => xs = []
  | c :: l, xs => ∃ v ys, xs = v :: ys ∧ CIsP w S c v ∧ CsIsP w S l ys
end
def SlP (w : World) (S : Nat → Prop) (z : Nat) (A : Option Addr) (n : Nat) (cs : List Cl) : Prop := ∃ xs, RdP w S z A n xs ∧ CsIsP w S cs xs
abbrev Sl (w : World) (B : Nat) (z : Nat) (A : Option Addr) (n : Nat) (cs : List Cl) : Prop := SlP w (fun b => b < B) z A n cs
section
variable {w w' : World} {S S' : Nat → Prop}
mutual
theorem CIsP.keep (hk : ∀ p : Addr, S p.block → w'.cell? p = w.cell? p) : ∀ {c : Cl} {v : Value}, CIsP w S c v → CIsP w' S c v
  | .i _, _, h => by simp only [CIsP] at h ⊢; exact h
  | .s _ _ cs, _, h => by
    simp only [CIsP] at h ⊢
    obtain ⟨A, c, xs, e, h1, h2, h3⟩ := h
    exact ⟨A, c, xs, e, h1, h2.keep hk, CsIsP.keep hk h3⟩
theorem CsIsP.keep (hk : ∀ p : Addr, S p.block → w'.cell? p = w.cell? p) : ∀ {l : List Cl} {xs : List Value}, CsIsP w S l xs → CsIsP w' S l xs
  | [], _, h => by simp only [CsIsP] at h ⊢; exact h
  | _ :: _, _, h => by
    simp only [CsIsP] at h ⊢
    obtain ⟨v, ys, e, h1, h2⟩ := h
    exact ⟨v, ys, e, CIsP.keep hk h1, CsIsP.keep hk h2⟩
end
mutual
theorem CIsP.more (hS : ∀ b, S b → S' b) : ∀ {c : Cl} {v : Value}, CIsP w S c v → CIsP w S' c v
  | .i _, _, h => by simp only [CIsP] at h ⊢; exact h
  | .s _ _ cs, _, h => by
    simp only [CIsP] at h ⊢
    obtain ⟨A, c, xs, e, h1, h2, h3⟩ := h
    exact ⟨A, c, xs, e, h1, h2.more hS, CsIsP.more hS h3⟩
theorem CsIsP.more (hS : ∀ b, S b → S' b) : ∀ {l : List Cl} {xs : List Value}, CsIsP w S l xs → CsIsP w S' l xs
  | [], _, h => by simp only [CsIsP] at h ⊢; exact h
  | _ :: _, _, h => by
    simp only [CsIsP] at h ⊢
    obtain ⟨v, ys, e, h1, h2⟩ := h
    exact ⟨v, ys, e, CIsP.more hS h1, CsIsP.more hS h2⟩
end
theorem CIsP.one {c : Cl} {v : Value} (h : CIsP w S c v) : v.oneCell' = true := by
  cases c with
  | i n => simp only [CIsP] at h; subst h; rfl
  | s z n cs => simp only [CIsP] at h; obtain ⟨A, c, xs, rfl, _⟩ := h; rfl
theorem CsIsP.len {l : List Cl} {xs : List Value} (h : CsIsP w S l xs) : xs.length = l.length := by
  induction l generalizing xs with
  | nil => simp only [CsIsP] at h; subst h; rfl
  | cons c l ih => simp only [CsIsP] at h; obtain ⟨v, ys, rfl, h1, h2⟩ := h; simp [ih h2]
theorem CsIsP.one {l : List Cl} {xs : List Value} (h : CsIsP w S l xs) : ∀ u ∈ xs, u.oneCell' = true := by
  induction l generalizing xs with
  | nil => simp only [CsIsP] at h; subst h; intro u hu; cases hu
  | cons c l ih =>
    simp only [CsIsP] at h
    obtain ⟨v, ys, rfl, h1, h2⟩ := h
    intro u hu
    rcases List.mem_cons.1 hu with rfl | hu
    · exact h1.one
    · exact ih h2 u hu
theorem CsIsP.append {l m : List Cl} {xs ys : List Value} (h : CsIsP w S l xs) (h' : CsIsP w S m ys) : CsIsP w S (l ++ m) (xs ++ ys) := by
  induction l generalizing xs with
  | nil => simp only [CsIsP] at h; subst h; exact h'
  | cons c l ih =>
    simp only [CsIsP] at h
    obtain ⟨v, zs, rfl, h1, h2⟩ := h
    rw [List.cons_append, List.cons_append]
    simp only [CsIsP]
    exact ⟨v, _, rfl, h1, ih h2⟩
theorem CsIsP.nil (w : World) (S : Nat → Prop) : CsIsP w S [] [] := by simp only [CsIsP]
theorem CsIsP.cons {c : Cl} {v : Value} {l : List Cl} {xs : List Value} (h : CIsP w S c v) (h' : CsIsP w S l xs) : CsIsP w S (c :: l) (v :: xs) := by
  simp only [CsIsP]; exact ⟨v, xs, rfl, h, h'⟩
theorem CsIsP.at_ {l : List Cl} {xs : List Value} (h : CsIsP w S l xs) {k : Nat} {c : Cl} (hk : l[k]? = some c) : ∃ v, xs[k]? = some v ∧ CIsP w S c v := by
  induction l generalizing xs k with
  | nil => simp at hk
  | cons c' l ih =>
    simp only [CsIsP] at h
    obtain ⟨v, ys, rfl, h1, h2⟩ := h
    cases k with
    | zero => simp at hk; subst hk; exact ⟨v, rfl, h1⟩
    | succ k => exact ih h2 (by simpa using hk)
theorem CsIsP.take {l : List Cl} {xs : List Value} (h : CsIsP w S l xs) (k : Nat) : CsIsP w S (l.take k) (xs.take k) := by
  induction l generalizing xs k with
  | nil => simp only [CsIsP] at h; subst h; simp [CsIsP]
  | cons c l ih =>
    simp only [CsIsP] at h
    obtain ⟨v, ys, rfl, h1, h2⟩ := h
    cases k with
    | zero => simp [CsIsP]
    | succ k => rw [List.take_succ_cons, List.take_succ_cons]; exact CsIsP.cons h1 (ih h2 k)
theorem CsIsP.drop {l : List Cl} {xs : List Value} (h : CsIsP w S l xs) (k : Nat) : CsIsP w S (l.drop k) (xs.drop k) := by
  induction l generalizing xs k with
  | nil => simp only [CsIsP] at h; subst h; simp [CsIsP]
  | cons c l ih =>
    simp only [CsIsP] at h
    obtain ⟨v, ys, rfl, h1, h2⟩ := h
    cases k with
    | zero => simpa using CsIsP.cons h1 h2
    | succ k => rw [List.drop_succ_cons, List.drop_succ_cons]; exact ih h2 k
theorem CsIsP.set {l : List Cl} {xs : List Value} (h : CsIsP w S l xs) {c : Cl} {v : Value} (hc : CIsP w S c v) (k : Nat) : CsIsP w S (l.set k c) (xs.set k v) := by
  induction l generalizing xs k with
  | nil => simp only [CsIsP] at h; subst h; simp [CsIsP]
  | cons c' l ih =>
    simp only [CsIsP] at h
    obtain ⟨v', ys, rfl, h1, h2⟩ := h
    cases k with
    | zero => exact CsIsP.cons hc h2
    | succ k => exact CsIsP.cons h1 (ih h2 k)
theorem CIsP.int (w : World) (S : Nat → Prop) (n : Int) : CIsP w S (.i n) (.int .i64 n) := by simp only [CIsP]
theorem CIsP.isInt {n : Int} {v : Value} (h : CIsP w S (.i n) v) : v = .int .i64 n := by simpa only [CIsP] using h
theorem CIsP.isSl {z n : Nat} {cs : List Cl} {v : Value} (h : CIsP w S (.s z n cs) v) : ∃ A c, v = .slice A n c ∧ Cap n c ∧ SlP w S z A n cs := by
  simp only [CIsP] at h
  obtain ⟨A, c, xs, e, h1, h2, h3⟩ := h
  exact ⟨A, c, e, h1, xs, h2, h3⟩
theorem CIsP.sl {z n c : Nat} {A : Option Addr} {cs : List Cl} (h : SlP w S z A n cs) (hc : Cap n c) : CIsP w S (.s z n cs) (.slice A n c) := by
  obtain ⟨xs, h1, h2⟩ := h
  simp only [CIsP]
  exact ⟨A, c, xs, rfl, hc, h1, h2⟩
theorem CsIsP.ints (w : World) (S : Nat → Prop) : ∀ l : List Int, CsIsP w S (l.map .i) (l.map (.int .i64 ·))
  | [] => CsIsP.nil w S
  | n :: l => CsIsP.cons (CIsP.int w S n) (CsIsP.ints w S l)
theorem CsIsP.isInts : ∀ {l : List Int} {xs : List Value}, CsIsP w S (l.map .i) xs → xs = l.map (.int .i64 ·)
  | [], xs, h => by simpa [CsIsP] using h
  | n :: l, xs, h => by
    simp only [List.map_cons, CsIsP] at h ⊢
    obtain ⟨v, ys, rfl, h1, h2⟩ := h
    rw [h1.isInt, CsIsP.isInts h2]
section
variable {z n : Nat} {A : Option Addr} {cs : List Cl}
theorem SlP.keep (h : SlP w S z A n cs) (hk : ∀ p : Addr, S p.block → w'.cell? p = w.cell? p) : SlP w' S z A n cs := by
  obtain ⟨xs, h1, h2⟩ := h
  exact ⟨xs, h1.keep hk, h2.keep hk⟩
theorem SlP.more (h : SlP w S z A n cs) (hS : ∀ b, S b → S' b) : SlP w S' z A n cs := by
  obtain ⟨xs, h1, h2⟩ := h
  exact ⟨xs, h1.more hS, h2.more hS⟩
theorem SlP.len (h : SlP w S z A n cs) : cs.length = n * z := by
  obtain ⟨xs, h1, h2⟩ := h
  rw [← h2.len]; exact h1.1
theorem SlP.nil (w : World) (S : Nat → Prop) (z : Nat) (A : Option Addr) : SlP w S z A 0 [] := ⟨[], RdP.nil w S z A, CsIsP.nil w S⟩
theorem SlP.at_ (h : SlP w S z A n cs) {k : Nat} {c : Cl} (hk : cs[k]? = some c) : ∃ a v, A = some a ∧ S a.block ∧ w.cell? (a.add k) = some v ∧ CIsP w S c v := by
  obtain ⟨xs, h1, h2⟩ := h
  obtain ⟨v, h3, h4⟩ := h2.at_ hk
  obtain ⟨a, e, hS, hc⟩ := h1.2 (fun e => by rw [e] at h3; simp at h3)
  exact ⟨a, v, e, hS, hc k v h3, h4⟩
theorem SlP.atInt (h : SlP w S z A n cs) {k : Nat} {i : Int} (hk : cs[k]? = some (.i i)) : ∃ a, A = some a ∧ S a.block ∧ w.cell? (a.add k) = some (.int .i64 i) := by
  obtain ⟨a, v, h1, h2, h3, h4⟩ := h.at_ hk
  rw [h4.isInt] at h3
  exact ⟨a, h1, h2, h3⟩
theorem SlP.atSl (h : SlP w S z A n cs) {k z' n' : Nat} {cs' : List Cl} (hk : cs[k]? = some (.s z' n' cs')) : ∃ a A' c', A = some a ∧ S a.block ∧ w.cell? (a.add k) = some (.slice A' n' c') ∧ Cap n' c' ∧ SlP w S z' A' n' cs' := by
  obtain ⟨a, v, h1, h2, h3, h4⟩ := h.at_ hk
  obtain ⟨A', c', rfl, h5, h6⟩ := h4.isSl
  exact ⟨a, A', c', h1, h2, h3, h5, h6⟩
theorem SlP.take (h : SlP w S z A n cs) {k : Nat} (hk : k ≤ n) : SlP w S z A k (cs.take (k * z)) := by
  obtain ⟨xs, h1, h2⟩ := h
  refine ⟨xs.take (k * z), ⟨?_, fun hne => ?_⟩, h2.take _⟩
  · rw [List.length_take, h1.1]
    exact Nat.min_eq_left (Nat.mul_le_mul_right _ hk)
  · obtain ⟨a, e, hS, hc⟩ := h1.2 (fun e => hne (by rw [e]; simp))
    refine ⟨a, e, hS, fun j u hu => hc j u ?_⟩
    rw [List.getElem?_take] at hu
    split at hu
    · exact hu
    · cases hu
end
end
section
variable {w w' : World} {B B' z n : Nat} {A : Option Addr} {cs : List Cl}
theorem Sl.below (h : Sl w B z A n cs) (hb : Below B w w') : Sl w' B z A n cs := SlP.keep h fun _ hp => hb.cell hp
theorem Sl.less (h : Sl w B z A n cs) (hB : B ≤ B') : Sl w B' z A n cs := SlP.more h fun _ hb => Nat.lt_of_lt_of_le hb hB
theorem Sl.on (h : Sl w w.heap.size z A n cs) (hb : Below w.heap.size w w') : Sl w' w'.heap.size z A n cs := (h.below hb).less hb.size
end
def OwnC (w : World) (base : Nat) (e : TypeId) (z : Nat) (A : Option Addr) (n c : Nat) (cs : List Cl) : Prop := ∃ xs, w.ownsRow base e z (.slice A n c) n xs ∧ CsIsP w (Apart base w (.slice A n c)) cs xs
section
variable {w w' : World} {base z n c : Nat} {e : TypeId} {A : Option Addr} {cs : List Cl}
theorem OwnC.nil (w : World) (base : Nat) (e : TypeId) (z : Nat) : OwnC w base e z none 0 0 [] := ⟨[], ⟨by simp, .inl ⟨rfl, rfl⟩⟩, CsIsP.nil _ _⟩
theorem OwnC.below (h : OwnC w base e z A n c cs) (hb : Below w.heap.size w w') : OwnC w' base e z A n c cs := by
  obtain ⟨xs, h1, h2⟩ := h
  refine ⟨xs, ?_, (h2.keep fun p hp => hb.cell hp.2.1).more fun b hb' => ⟨hb'.1, Nat.lt_of_lt_of_le hb'.2.1 hb.size, hb'.2.2⟩⟩
  refine ⟨h1.1, ?_⟩
  rcases h1.2 with h0 | ⟨g, cap, cur, hv, hb2, hg, rest⟩
  · exact .inl h0
  · exact .inr ⟨g, cap, cur, hv, hb2, (hb.block g (Array.getElem?_eq_some_iff.1 hg).1).trans hg, rest⟩
theorem OwnC.sl (h : OwnC w base e z A n c cs) : SlP w (fun b => base ≤ b ∧ b < w.heap.size) z A n cs := by
  obtain ⟨xs, h1, h2⟩ := h
  exact ⟨xs, RdP.of_own h1, h2.more fun b hb => ⟨hb.1, hb.2.1⟩⟩
theorem OwnC.len (h : OwnC w base e z A n c cs) : cs.length = n * z := h.sl.len
theorem own_cap {xs : List Value} (h : w.ownsRow base e z (.slice A n c) n xs) : Cap n c := by
  rcases h.2 with ⟨h0, _⟩ | ⟨g, cap, cur, hv, _, _, hn, hm, _⟩
  · injection h0 with _ h0 h9; exact ⟨by omega, by omega⟩
  · injection hv with _ _ hv; subst hv; exact ⟨hn, hm⟩
theorem OwnC.le (h : OwnC w base e z A n c cs) : Cap n c := by
  obtain ⟨xs, h1, _⟩ := h
  exact own_cap h1
theorem OwnC.far (h : OwnC w base e z A n c cs) (hs : w.heap.size ≤ w'.heap.size) (hk : ∀ q, base ≤ q → q < w.heap.size → w'.heap[q]? = w.heap[q]?) : OwnC w' base e z A n c cs := by
  obtain ⟨xs, h1, h2⟩ := h
  refine ⟨xs, ⟨h1.1, ?_⟩, (h2.keep fun p hp => World.cell?_of_block (hk p.block hp.1 hp.2.1)).more fun b hb' => ⟨hb'.1, Nat.lt_of_lt_of_le hb'.2.1 hs, hb'.2.2⟩⟩
  rcases h1.2 with h0 | ⟨g, cap, cur, hv, hb2, hg, rest⟩
  · exact .inl h0
  · exact .inr ⟨g, cap, cur, hv, hb2, (hk g hb2 (Array.getElem?_eq_some_iff.1 hg).1).trans hg, rest⟩
theorem OwnC.push {xs news : List Value} {A' : Option Addr} {c' : Nat} {ns : List Cl} (h2 : CsIsP w (Apart base w (.slice A n c)) cs xs) (ho : w'.ownsRow base e z (.slice A' (n + 1) c') (n + 1) (xs ++ news)) (hg : w.grownBy w' (Value.slice A n c).ownBlock)
    (hat : ∀ g, (Value.slice A' (n + 1) c').ownBlock = some g → (Value.slice A n c).ownBlock = some g ∨ w.heap.size ≤ g) (hn : CsIsP w (Apart base w (.slice A n c)) ns news) : OwnC w' base e z A' (n + 1) c' (cs ++ ns) := by
  refine ⟨_, ho, ((h2.append hn).keep fun p hp => World.cell?_of_block (hg.block p.block hp.2.1 (fun e => hp.2.2 e.symm))).more fun b hb => ⟨hb.1, Nat.lt_of_lt_of_le hb.2.1 hg.size, fun e => ?_⟩⟩
  rcases hat b e with h4 | h4
  · exact hb.2.2 h4
  · have := hb.2.1; omega
end
theorem apart_below {w w' : World} {lo : Nat} {v : Value} {cs : List Cl} {xs : List Value} (h : CsIsP w (Apart lo w v) cs xs) (hb : Below w.heap.size w w') : CsIsP w' (Apart lo w' v) cs xs :=
  (h.keep fun _p hp => hb.cell hp.2.1).more fun _b hb' => ⟨hb'.1, Nat.lt_of_lt_of_le hb'.2.1 hb.size, hb'.2.2⟩
theorem flat_at {α : Type} {f : α → List Cl} {z : Nat} (hz : ∀ x, (f x).length = z) : ∀ {l : List α} {k r : Nat} {x : α}, l[k]? = some x → r < z → (l.flatMap f)[k * z + r]? = (f x)[r]?
  | [], k, r, x, hk, _ => by simp at hk
  | y :: l, 0, r, x, hk, hr => by
    simp at hk
    subst hk
    rw [List.flatMap_cons, List.getElem?_append_left (by rw [hz]; omega), Nat.zero_mul, Nat.zero_add]
  | y :: l, k + 1, r, x, hk, hr => by
    rw [List.flatMap_cons, List.getElem?_append_right (by rw [hz, Nat.add_mul]; omega), hz, show (k + 1) * z + r - z = k * z + r by rw [Nat.add_mul]; omega]
    exact flat_at hz (by simpa using hk) hr
end Go.Proofs.YtnkelhmjkmeilaaGreatDoor.H
end
section
namespace Go.Proofs.YtnkelhmjkmeilaaGreatDoor.H
open Go.RowKit Go.Maps Go.WideMaps
attribute [local go_sem ↓] Go.wp_at_zero Go.wp_at_succ
theorem qlen_any {w : World} {A : Option Addr} {n c : Nat} : Calls Tryz.prog 297 #[.slice A n c] w fun e w' => e = .returned (.int .i64 n) ∧ w = w' := by
  go_enter Tryz.func297, Tryz.ntmps297
  go_wp2
  go_ret
  exact ⟨rfl, rfl⟩
theorem mth_push (a : Addr) (n : Nat) (w : World) : (method (n + 1) 247 (.pointer (some a)) "Push").run Tryz.prog w = .ok (303, .pointer (some a)) w := by kernel_rfl
theorem mth_pop (a : Addr) (n : Nat) (w : World) : (method (n + 1) 247 (.pointer (some a)) "Pop").run Tryz.prog w = .ok (302, .pointer (some a)) w := by kernel_rfl
theorem mth_len0 (a : Addr) (n : Nat) (w : World) : (method (n + 1) 247 (.pointer (some a)) "Len").run Tryz.prog w = (do let v ← loadVar 242 a; pure (297, v) : Sem (FuncId × Value)).run Tryz.prog w := by kernel_rfl
theorem mth_less0 (a : Addr) (n : Nat) (w : World) : (method (n + 1) 247 (.pointer (some a)) "Less").run Tryz.prog w = (do let v ← loadVar 242 a; pure (298, v) : Sem (FuncId × Value)).run Tryz.prog w := by kernel_rfl
theorem mth_swap0 (a : Addr) (n : Nat) (w : World) : (method (n + 1) 247 (.pointer (some a)) "Swap").run Tryz.prog w = (do let v ← loadVar 242 a; pure (299, v) : Sem (FuncId × Value)).run Tryz.prog w := by kernel_rfl
theorem load_q {a : Addr} {w : World} {A : Option Addr} {n c : Nat} (h : w.cell? a = some (.slice A n c)) : (loadVar 242 a).run Tryz.prog w = .ok (.slice A n c) w := by
  have hu := Tryz.underlying242
  go_simp
theorem mth_len {a : Addr} {w : World} {A : Option Addr} {n c : Nat} (h : w.cell? a = some (.slice A n c)) (k : Nat) : (method (k + 1) 247 (.pointer (some a)) "Len").run Tryz.prog w = .ok (297, .slice A n c) w := by
  rw [mth_len0, Sem.run_bind, load_q h]; rfl
theorem mth_less {a : Addr} {w : World} {A : Option Addr} {n c : Nat} (h : w.cell? a = some (.slice A n c)) (k : Nat) : (method (k + 1) 247 (.pointer (some a)) "Less").run Tryz.prog w = .ok (298, .slice A n c) w := by
  rw [mth_less0, Sem.run_bind, load_q h]; rfl
theorem mth_swap {a : Addr} {w : World} {A : Option Addr} {n c : Nat} (h : w.cell? a = some (.slice A n c)) (k : Nat) : (method (k + 1) 247 (.pointer (some a)) "Swap").run Tryz.prog w = .ok (299, .slice A n c) w := by
  rw [mth_swap0, Sem.run_bind, load_q h]; rfl
structure Kb (w w' : World) (S : Nat → Prop) : Prop where
  os : w'.os = w.os
  tape : w'.tape = w.tape
  output : w'.output = w.output
  size : w.heap.size ≤ w'.heap.size
  block : ∀ k, k < w.heap.size → ¬ S k → w'.heap[k]? = w.heap[k]?
theorem Kb.refl (w : World) (S : Nat → Prop) : Kb w w S := ⟨rfl, rfl, rfl, Nat.le_refl _, fun _ _ _ => rfl⟩
theorem Kb.trans {w w' w'' : World} {S : Nat → Prop} (h : Kb w w' S) (h' : Kb w' w'' S) : Kb w w'' S :=
  ⟨h'.os.trans h.os, h'.tape.trans h.tape, h'.output.trans h.output, Nat.le_trans h.size h'.size, fun k hk hn => (h'.block k (Nat.lt_of_lt_of_le hk h.size) hn).trans (h.block k hk hn)⟩
theorem Kb.more {w w' : World} {S S' : Nat → Prop} (h : Kb w w' S) (hS : ∀ k, S k → S' k) : Kb w w' S' := ⟨h.os, h.tape, h.output, h.size, fun k hk hn => h.block k hk fun hs => hn (hS k hs)⟩
theorem Kb.grown {w w' : World} {r : Option Nat} {S : Nat → Prop} (h : w.grownBy w' r) (hS : ∀ k, r = some k → S k) : Kb w w' S := ⟨h.os, h.tape, h.output, h.size, fun k hk hn => h.block k hk fun e => hn (hS k e.symm)⟩
theorem Kb.of_below {w w' : World} {S : Nat → Prop} (h : Below w.heap.size w w') : Kb w w' S := ⟨h.os, h.tape, h.output, h.size, fun k hk _ => h.block k hk⟩
theorem Kb.below {w0 w w' : World} {B : Nat} {S : Nat → Prop} (h : Kb w w' S) (hb : Below B w0 w) (hB : B ≤ w.heap.size) (hS : ∀ k, S k → B ≤ k) : Below B w0 w' :=
  ⟨h.os.trans hb.os, h.tape.trans hb.tape, h.output.trans hb.output, Nat.le_trans hb.size h.size, fun k hk => (h.block k (by omega) fun hs => by have := hS k hs; omega).trans (hb.block k hk)⟩
structure QIs (w : World) (base fb o : Nat) (T : TypeId) (arr : Array Value) (A : Option Addr) (c : Nat) (q : List Stp) : Prop where
  var : w.heap[fb]? = some (.cells arr T (0, 0))
  val : arr[o]? = some (.slice A q.length c)
  row : w.ownsRow base 200 5 (.slice A q.length c) q.length (stCs q)
  ne : (Value.slice A q.length c).ownBlock ≠ some fb
section
variable {w w' : World} {base fb o : Nat} {T : TypeId} {arr : Array Value} {A : Option Addr} {c g : Nat} {q q' : List Stp}
theorem QIs.cell (h : QIs w base fb o T arr A c q) : w.cell? ⟨fb, o, none⟩ = some (.slice A q.length c) := (Lib.cell_of_heap h.var o).trans h.val
theorem QIs.rd (h : QIs w base fb o T arr A c q) : Rd w w.heap.size 5 A q.length (stCs q) := Rd.of_own h.row
theorem QIs.lt (h : QIs w base fb o T arr A c q) : fb < w.heap.size := (Array.getElem?_eq_some_iff.1 h.var).1
theorem QIs.below (h : QIs w base fb o T arr A c q) (hb : Below w.heap.size w w') : QIs w' base fb o T arr A c q :=
  ⟨(hb.block fb h.lt).trans h.var, h.val, own_below h.row hb (Nat.le_refl _), h.ne⟩
theorem QIs.swap (h : QIs w base fb o T arr (some ⟨g, 0, none⟩) c q) (hl : q'.length = q.length) (hr : w'.ownsRow base 200 5 (.slice (some ⟨g, 0, none⟩) q.length c) q.length (stCs q')) (hg : w.grownBy w' (some g)) : QIs w' base fb o T arr (some ⟨g, 0, none⟩) c q' := by
  refine ⟨(hg.block fb h.lt fun e => h.ne ?_).trans h.var, by rw [hl]; exact h.val, by rw [hl]; exact hr, fun e => h.ne ?_⟩
  · injection e with e; rw [e]; rfl
  · exact e
end
set_option maxHeartbeats 1000000 in
set_option maxRecDepth 100000 in
theorem up_any {w : World} {base fb o : Nat} {T : TypeId} {arr : Array Value} {g c j : Nat} {q : List Stp} (h : QIs w base fb o T arr (some ⟨g, 0, none⟩) c q) (hj : j < q.length) (hI : UpI (cs q) q.length j) (hl : q.length ≤ 1000000000000) :
    Calls Tryz.prog 212 #[.iface 247 (.pointer (some ⟨fb, o, none⟩)), .int .i64 j] w fun e w' => e = .returned (.tuple #[]) ∧ ∃ q', QIs w' base fb o T arr (some ⟨g, 0, none⟩) c q' ∧ q'.Perm q ∧ Heap q' ∧ Kb w w' (· = g) := by
  go_enter Tryz.func212, Tryz.ntmps212
  go_wp2
  go_loopw [1] (fun jv wr => ∃ (j : Nat) (q' : List Stp), jv = .int .i64 j ∧ j < q'.length ∧ Hid (UpI (cs q') q'.length j) ∧ QIs wr base fb o T arr (some ⟨g, 0, none⟩) c q' ∧ Hid (q'.Perm q) ∧ Kb w wr (· = g)) (fun jv _ => (intOf jv).toNat)
  case atStart => exact ⟨j, q, rfl, hj, hI, h, List.Perm.refl _, Kb.refl _ _⟩
  case round =>
    obtain ⟨j, q', rfl, hj, hI, h, hp, hk⟩ := hrel
    have hql : q'.length ≤ 1000000000000 := by rw [hp.out.length_eq]; exact hl
    have mL := mth_less h.cell
    have mS := mth_swap h.cell
    have HQ := Lib.hid h
    have HK := Lib.hid hk
    clear h hk
    by_cases hj0 : j = 0
    · subst hj0
      have HH := Lib.hid (hI.out.done (.inl rfl))
      have hz : ((0 : Nat) : Int) = 0 := rfl
      rw [hz]
      clear hI
      go_wp2
      exact bodyPost_end (results_none rfl _ _ _) rfl ⟨rfl, q', HQ.out, hp.out, HH.out, HK.out⟩
    · obtain ⟨p, hpj⟩ : ∃ p, p = (j - 1) / 2 := ⟨_, rfl⟩
      have hpl : p < j := by omega
      have hpq : p < q'.length := by omega
      have hq : ((j : Int) - 1) / 2 = (p : Int) := by omega
      have hne : ((p : Int) == (j : Int)) = false := by simp; omega
      have hj1 : (1 : Int) ≤ (j : Int) := by omega
      have hjb : (j : Int) ≤ 140737488355328 := by omega
      have HP := Lib.hid hpj
      clear hpj hj0
      go_wp2_with fail
      refine (less_any HQ.out.rd hj hpq).mono ?_
      rintro e W1 ⟨rfl, b1⟩
      have hQ1 := HQ.out.below b1
      have hK1 := HK.out.trans (Kb.of_below (S := (· = g)) b1)
      clear mL mS b1
      cases hlt : ltS q'[j] q'[p] with
      | false =>
        have HH := Lib.hid (hI.out.done (.inr (by rw [← HP.out, cs_at hj, cs_at hpq]; exact ltS_ge hlt)))
        have HQ1 := Lib.hid hQ1
        clear hI hlt hQ1
        go_wp2
        exact bodyPost_end (results_none rfl _ _ _) rfl ⟨rfl, q', HQ1.out, hp.out, HH.out, hK1⟩
      | true =>
        have hI2 := hI.out.step (c' := cs (sw q' p j)) (by omega) hj (by rw [← HP.out, cs_at hj, cs_at hpq]; exact ltS_le hlt) (fun k => by rw [sw_cs hpq hj, ← HP.out])
        rw [← HP.out] at hI2
        have HI2 := Lib.hid hI2
        have mS := mth_swap hQ1.cell
        have HQ1 := Lib.hid hQ1
        have HK1 := Lib.hid hK1
        clear hI hlt hQ1 hI2 hK1
        go_wp2_with fail
        refine (swap_any HQ1.out.row hpq hj).mono ?_
        rintro e W2 ⟨rfl, hr, hg, hs⟩
        have hsl := sw_length q' p j
        have hQ2 := HQ1.out.swap hsl hr hg
        have HQ2 := Lib.hid hQ2
        have HK2 := Lib.hid (HK1.out.trans (Kb.grown (S := (· = g)) hg (fun k e => by injection e with e; exact e.symm)))
        have HSL := Lib.hid hsl
        clear hr hg hs hQ2 hsl mS
        go_wp2
        go_roundw
        case rel => exact ⟨p, sw q' p j, rfl, by rw [HSL.out]; exact hpq, by have := HI2.out; rw [HSL.out]; exact this, HQ2.out, (sw_perm q' p j).trans hp.out, HK2.out⟩
        case measure => simp [intOf]; omega
set_option maxHeartbeats 2000000 in
set_option maxRecDepth 100000 in
theorem down_any {w : World} {base fb o : Nat} {T : TypeId} {arr : Array Value} {g c n : Nat} {q : List Stp} (h : QIs w base fb o T arr (some ⟨g, 0, none⟩) c q) (hn : n < q.length) (hI : DnI (cs q) n 0) (hl : q.length ≤ 1000000000000) :
    Calls Tryz.prog 187 #[.iface 247 (.pointer (some ⟨fb, o, none⟩)), .int .i64 0, .int .i64 n] w fun e w' => (∃ b, e = .returned (.bool b)) ∧ ∃ q', QIs w' base fb o T arr (some ⟨g, 0, none⟩) c q' ∧ q'.Perm q ∧ HO (cs q') n ∧ (∀ k, n ≤ k → q'[k]? = q[k]?) ∧ Kb w w' (· = g) := by
  go_enter Tryz.func187, Tryz.ntmps187
  go_wp2
  go_loopw [7] (fun iv wr => ∃ (i : Nat) (q' : List Stp), iv = .int .i64 i ∧ (i = 0 ∨ i < n) ∧ Hid (DnI (cs q') n i) ∧ QIs wr base fb o T arr (some ⟨g, 0, none⟩) c q' ∧ Hid (q'.Perm q ∧ ∀ k, n ≤ k → q'[k]? = q[k]?) ∧ Kb w wr (· = g)) (fun iv _ => n - (intOf iv).toNat)
  case atStart => exact ⟨0, q, rfl, .inl rfl, hI, h, ⟨List.Perm.refl _, fun _ _ => rfl⟩, Kb.refl _ _⟩
  case round =>
    clear h
    obtain ⟨i, q', rfl, hi, hI, h, hp, hk⟩ := hrel
    have hql : q'.length ≤ 1000000000000 := by rw [hp.out.1.length_eq]; exact hl
    have hnl : n < q'.length := by rw [hp.out.1.length_eq]; exact hn
    have HQ := Lib.hid h
    have HK := Lib.hid hk
    clear h hk hn
    have hib : i ≤ 1000000000000 := by omega
    have hibI : (i : Int) ≤ 1000000000000 := by omega
    by_cases hj1 : 2 * i + 1 < n
    · have hI1 : ¬ ((n : Int) ≤ 2 * (i : Int) + 1) := by omega
      have hI0 : ¬ (2 * (i : Int) + 1 < 0) := by omega
      have hin : i < n := by omega
      have hiq : i < q'.length := by omega
      by_cases hj2 : 2 * i + 2 < n
      · have hJ2 : 2 * (i : Int) + 1 + 1 < (n : Int) := by omega
        obtain ⟨k1, hk1⟩ : ∃ k1, k1 = 2 * i + 1 := ⟨_, rfl⟩
        obtain ⟨k2, hk2⟩ : ∃ k2, k2 = 2 * i + 2 := ⟨_, rfl⟩
        have hq1 : k1 < q'.length := by omega
        have hq2 : k2 < q'.length := by omega
        have mL := mth_less HQ.out.cell
        have HE := Lib.hid (And.intro hk1 hk2)
        clear hk1 hk2
        go_wp2_with fail
        have he1 : (k1 : Int) + 1 = (k2 : Int) := by have := HE.out; omega
        have he2 : 2 * (i : Int) + 1 = (k1 : Int) := by have := HE.out; omega
        simp only [he2, he1]
        clear he1 he2 mL
        refine (less_any HQ.out.rd hq2 hq1).mono ?_
        rintro e W1 ⟨rfl, b1⟩
        have HQ1 := Lib.hid (HQ.out.below b1)
        have HK1 := Lib.hid (HK.out.trans (Kb.of_below (S := (· = g)) b1))
        clear b1
        cases hc : ltS q'[k2] q'[k1] with
        | true =>
          have hcc := ltS_le hc
          rw [← cs_at hq2, ← cs_at hq1] at hcc
          have hmin := Lib.hid (show ∀ k, 0 < k → k < n → (k - 1) / 2 = i → cs q' k2 ≤ cs q' k from fun k hk hkn hkp => by
            obtain ⟨e1, e2⟩ := HE.out
            have : k = k1 ∨ k = k2 := by omega
            rcases this with rfl | rfl
            · exact hcc
            · exact Nat.le_refl _)
          obtain ⟨j, hj⟩ : ∃ j, j = k2 := ⟨_, rfl⟩
          rw [← hj] at hmin ⊢
          have hjn : j < n := by have := HE.out; omega
          have hjz : 0 < j := by have := HE.out; omega
          have hjq : j < q'.length := by omega
          have hjp : (j - 1) / 2 = i := by have := HE.out; omega
          have HJP := Lib.hid hjp
          clear hc hcc hj hjp hj1 hj2
          go_upto_region 8 with fail
          have hjp := HJP.out
          clear HJP HQ HK
          have mL2 := mth_less HQ1.out.cell
          go_wp2_with fail
          refine (less_any HQ1.out.rd hjq hiq).mono ?_
          rintro e W2 ⟨rfl, b2⟩
          have hQ2 := HQ1.out.below b2
          have hK2 := HK1.out.trans (Kb.of_below (S := (· = g)) b2)
          clear mL2 b2
          cases hlt : ltS q'[j] q'[i] with
          | false =>
            have HH := Lib.hid (hI.out.done fun k hk hkn hkp => Nat.le_trans (by rw [cs_at hjq, cs_at hiq]; exact ltS_ge hlt) (hmin.out k hk hkn hkp))
            have HQ2 := Lib.hid hQ2
            clear hI hlt hQ2
            go_wp2
            go_ret
            exact ⟨⟨_, rfl⟩, q', HQ2.out, hp.out.1, HH.out, hp.out.2, hK2⟩
          | true =>
            have hij : i < j := by omega
            have hI2 := hI.out.step (c' := cs (sw q' i j)) hjp (by omega) hjn (by rw [cs_at hjq, cs_at hiq]; exact ltS_le hlt) hmin.out (fun k => sw_cs hiq hjq k)
            have HI2 := Lib.hid hI2
            clear hjp
            have mS := mth_swap hQ2.cell
            have HQ2 := Lib.hid hQ2
            have HK2 := Lib.hid hK2
            clear hI hlt hQ2 hI2 hK2
            go_wp2_with fail
            refine (swap_any HQ2.out.row hiq hjq).mono ?_
            rintro e W3 ⟨rfl, hr, hg, hs⟩
            have hsl := sw_length q' i j
            have hQ3 := HQ2.out.swap hsl hr hg
            have HQ3 := Lib.hid hQ3
            have HK3 := Lib.hid (HK2.out.trans (Kb.grown (S := (· = g)) hg (fun k e => by injection e with e; exact e.symm)))
            have HP3 := Lib.hid (show (sw q' i j).Perm q ∧ ∀ k, n ≤ k → (sw q' i j)[k]? = q[k]? from ⟨(sw_perm q' i j).trans hp.out.1, fun k hk => by rw [sw_at hiq hjq, if_neg (show ¬ k = j by omega), if_neg (show ¬ k = i by omega)]; exact hp.out.2 k hk⟩)
            clear hr hg hs hQ3 hsl mS
            go_wp2
            go_roundw
            case rel => exact ⟨j, sw q' i j, rfl, .inr hjn, HI2.out, HQ3.out, HP3.out, HK3.out⟩
            case measure => simp [intOf]; omega
        | false =>
          have hcc := ltS_ge hc
          rw [← cs_at hq2, ← cs_at hq1] at hcc
          have hmin := Lib.hid (show ∀ k, 0 < k → k < n → (k - 1) / 2 = i → cs q' k1 ≤ cs q' k from fun k hk hkn hkp => by
            obtain ⟨e1, e2⟩ := HE.out
            have : k = k1 ∨ k = k2 := by omega
            rcases this with rfl | rfl
            · exact Nat.le_refl _
            · exact hcc)
          obtain ⟨j, hj⟩ : ∃ j, j = k1 := ⟨_, rfl⟩
          rw [← hj] at hmin ⊢
          have hjn : j < n := by have := HE.out; omega
          have hjz : 0 < j := by have := HE.out; omega
          have hjq : j < q'.length := by omega
          have hjp : (j - 1) / 2 = i := by have := HE.out; omega
          have HJP := Lib.hid hjp
          clear hc hcc hj hjp hj1 hj2
          go_upto_region 8 with fail
          have hjp := HJP.out
          clear HJP HQ HK
          have mL2 := mth_less HQ1.out.cell
          go_wp2_with fail
          refine (less_any HQ1.out.rd hjq hiq).mono ?_
          rintro e W2 ⟨rfl, b2⟩
          have hQ2 := HQ1.out.below b2
          have hK2 := HK1.out.trans (Kb.of_below (S := (· = g)) b2)
          clear mL2 b2
          cases hlt : ltS q'[j] q'[i] with
          | false =>
            have HH := Lib.hid (hI.out.done fun k hk hkn hkp => Nat.le_trans (by rw [cs_at hjq, cs_at hiq]; exact ltS_ge hlt) (hmin.out k hk hkn hkp))
            have HQ2 := Lib.hid hQ2
            clear hI hlt hQ2
            go_wp2
            go_ret
            exact ⟨⟨_, rfl⟩, q', HQ2.out, hp.out.1, HH.out, hp.out.2, hK2⟩
          | true =>
            have hij : i < j := by omega
            have hI2 := hI.out.step (c' := cs (sw q' i j)) hjp (by omega) hjn (by rw [cs_at hjq, cs_at hiq]; exact ltS_le hlt) hmin.out (fun k => sw_cs hiq hjq k)
            have HI2 := Lib.hid hI2
            clear hjp
            have mS := mth_swap hQ2.cell
            have HQ2 := Lib.hid hQ2
            have HK2 := Lib.hid hK2
            clear hI hlt hQ2 hI2 hK2
            go_wp2_with fail
            refine (swap_any HQ2.out.row hiq hjq).mono ?_
            rintro e W3 ⟨rfl, hr, hg, hs⟩
            have hsl := sw_length q' i j
            have hQ3 := HQ2.out.swap hsl hr hg
            have HQ3 := Lib.hid hQ3
            have HK3 := Lib.hid (HK2.out.trans (Kb.grown (S := (· = g)) hg (fun k e => by injection e with e; exact e.symm)))
            have HP3 := Lib.hid (show (sw q' i j).Perm q ∧ ∀ k, n ≤ k → (sw q' i j)[k]? = q[k]? from ⟨(sw_perm q' i j).trans hp.out.1, fun k hk => by rw [sw_at hiq hjq, if_neg (show ¬ k = j by omega), if_neg (show ¬ k = i by omega)]; exact hp.out.2 k hk⟩)
            clear hr hg hs hQ3 hsl mS
            go_wp2
            go_roundw
            case rel => exact ⟨j, sw q' i j, rfl, .inr hjn, HI2.out, HQ3.out, HP3.out, HK3.out⟩
            case measure => simp [intOf]; omega
      · have hJ2 : ¬ (2 * (i : Int) + 1 + 1 < (n : Int)) := by omega
        obtain ⟨j, hj⟩ : ∃ j, j = 2 * i + 1 := ⟨_, rfl⟩
        have hmin := Lib.hid (show ∀ k, 0 < k → k < n → (k - 1) / 2 = i → cs q' j ≤ cs q' k from fun k hk hkn hkp => by
          obtain rfl : k = j := by omega
          exact Nat.le_refl _)
        have hjn : j < n := by omega
        have hjz : 0 < j := by omega
        have hjq : j < q'.length := by omega
        have HJP := Lib.hid (show (j - 1) / 2 = i by omega)
        have HJ := Lib.hid hj
        have HQ1 := HQ
        have HK1 := HK
        clear hj hj1 hj2
        go_upto_region 8 with fail
        have he2 : 2 * (i : Int) + 1 = (j : Int) := by have := HJ.out; omega
        simp only [he2]
        clear he2
        have hjp := HJP.out
        clear HJP HQ HK HJ
        have mL2 := mth_less HQ1.out.cell
        go_wp2_with fail
        refine (less_any HQ1.out.rd hjq hiq).mono ?_
        rintro e W2 ⟨rfl, b2⟩
        have hQ2 := HQ1.out.below b2
        have hK2 := HK1.out.trans (Kb.of_below (S := (· = g)) b2)
        clear mL2 b2
        cases hlt : ltS q'[j] q'[i] with
        | false =>
          have HH := Lib.hid (hI.out.done fun k hk hkn hkp => Nat.le_trans (by rw [cs_at hjq, cs_at hiq]; exact ltS_ge hlt) (hmin.out k hk hkn hkp))
          have HQ2 := Lib.hid hQ2
          clear hI hlt hQ2
          go_wp2
          go_ret
          exact ⟨⟨_, rfl⟩, q', HQ2.out, hp.out.1, HH.out, hp.out.2, hK2⟩
        | true =>
          have hij : i < j := by omega
          have hI2 := hI.out.step (c' := cs (sw q' i j)) hjp (by omega) hjn (by rw [cs_at hjq, cs_at hiq]; exact ltS_le hlt) hmin.out (fun k => sw_cs hiq hjq k)
          have HI2 := Lib.hid hI2
          clear hjp
          have mS := mth_swap hQ2.cell
          have HQ2 := Lib.hid hQ2
          have HK2 := Lib.hid hK2
          clear hI hlt hQ2 hI2 hK2
          go_wp2_with fail
          refine (swap_any HQ2.out.row hiq hjq).mono ?_
          rintro e W3 ⟨rfl, hr, hg, hs⟩
          have hsl := sw_length q' i j
          have hQ3 := HQ2.out.swap hsl hr hg
          have HQ3 := Lib.hid hQ3
          have HK3 := Lib.hid (HK2.out.trans (Kb.grown (S := (· = g)) hg (fun k e => by injection e with e; exact e.symm)))
          have HP3 := Lib.hid (show (sw q' i j).Perm q ∧ ∀ k, n ≤ k → (sw q' i j)[k]? = q[k]? from ⟨(sw_perm q' i j).trans hp.out.1, fun k hk => by rw [sw_at hiq hjq, if_neg (show ¬ k = j by omega), if_neg (show ¬ k = i by omega)]; exact hp.out.2 k hk⟩)
          clear hr hg hs hQ3 hsl mS
          go_wp2
          go_roundw
          case rel => exact ⟨j, sw q' i j, rfl, .inr hjn, HI2.out, HQ3.out, HP3.out, HK3.out⟩
          case measure => simp [intOf]; omega
    · have hI1 : (n : Int) ≤ 2 * (i : Int) + 1 := by omega
      have HH := Lib.hid (hI.out.done fun k hk hkn hkp => by omega)
      clear hI
      go_wp2
      go_ret
      exact ⟨⟨_, rfl⟩, q', HQ.out, hp.out.1, HH.out, hp.out.2, HK.out⟩
end Go.Proofs.YtnkelhmjkmeilaaGreatDoor.H
end
