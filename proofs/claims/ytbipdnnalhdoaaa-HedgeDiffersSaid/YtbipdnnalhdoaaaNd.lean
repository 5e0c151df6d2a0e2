/- Nodes as trees, and how they lie in memory: five cells a node, two an attribute. No program in sight but the model. -/
import Derived.Test.YtbipdnnalhdoaaaMem
import Derived.Test.YtbipdnnalhdoaaaRefs
import Derived.Test.YtbipdnnalhdoaaaStr
namespace Go.Proofs.Ytbipdnnalhdoaaa
open Go.RowKit

abbrev Atr := List UInt8 × List UInt8
inductive Nd where
  | mk (kind : Int) (name : List UInt8) (attrs : List Atr) (text : List UInt8) (kids : List Nd)
def Nd.kind : Nd → Int | .mk k _ _ _ _ => k
def Nd.name : Nd → List UInt8 | .mk _ n _ _ _ => n
def Nd.attrs : Nd → List Atr | .mk _ _ a _ _ => a
def Nd.text : Nd → List UInt8 | .mk _ _ _ t _ => t
def Nd.kids : Nd → List Nd | .mk _ _ _ _ k => k

/-- a string's value -/
def sv (l : List UInt8) : Value := .string ⟨l.toArray⟩
theorem IsStr.sv {t : ByteArray} {l : List UInt8} (h : IsStr t l) : Value.string t = sv l := by rw [h.to]; rfl
def atrCells : List Atr → List Value
  | [] => []
  | a :: l => sv a.1 :: sv a.2 :: atrCells l

/-- the slice value '.slice A n c' reads as the cells xs (z cells an element), in a block of which S holds -/
def RdP (w : World) (S : Nat → Prop) (z : Nat) (A : Option Addr) (n : Nat) (xs : List Value) : Prop :=
  xs.length = n * z ∧ (xs ≠ [] → ∃ a, A = some a ∧ S a.block ∧ ∀ j u, xs[j]? = some u → w.cell? (a.add j) = some u)

mutual
/-- a node's cells; all blocks are such of which S holds -/
def NIsP (w : World) (S : Nat → Prop) : Nd → List Value → Prop
  | .mk k nm ats tx kids, cs => ∃ A n c A' n' c' xs, cs = [.int .i64 k, sv nm, .slice A n c, sv tx, .slice A' n' c'] ∧ n ≤ c ∧ RdP w S 2 A n (atrCells ats) ∧ n' ≤ c' ∧ RdP w S 5 A' n' xs ∧ NsIsP w S kids xs
/-- the nodes' cells -/
def NsIsP (w : World) (S : Nat → Prop) : List Nd → List Value → Prop
  | [], cs => cs = []
  | n :: l, cs => ∃ a b, cs = a ++ b ∧ NIsP w S n a ∧ NsIsP w S l b
end
def NodesP (w : World) (S : Nat → Prop) (A : Option Addr) (n : Nat) (l : List Nd) : Prop := ∃ xs, RdP w S 5 A n xs ∧ NsIsP w S l xs
/-- .. all of it below block B -/
def NIs (w : World) (B : Nat) (n : Nd) (cs : List Value) : Prop := NIsP w (fun b => b < B) n cs
def NsIs (w : World) (B : Nat) (l : List Nd) (cs : List Value) : Prop := NsIsP w (fun b => b < B) l cs

/-- THE SLICE VALUE '.slice A n c' READS AS THE NODES l, all of it below block B. -/
def Nodes (w : World) (B : Nat) (A : Option Addr) (n : Nat) (l : List Nd) : Prop := NodesP w (fun b => b < B) A n l
/-- .. as the attributes l -/
def Atrs (w : World) (B : Nat) (A : Option Addr) (n : Nat) (l : List Atr) : Prop := Rd w B 2 A n (atrCells l)

theorem atrCells_length (l : List Atr) : (atrCells l).length = l.length * 2 := by
  induction l with
  | nil => rfl
  | cons a l ih => simp only [atrCells, List.length_cons, ih]; omega
theorem atrCells_append (l m : List Atr) : atrCells (l ++ m) = atrCells l ++ atrCells m := by
  induction l with
  | nil => rfl
  | cons a l ih => simp only [atrCells, List.cons_append, ih]
theorem atrCells_one (l : List Atr) : ∀ u ∈ atrCells l, u.oneCell' = true := by
  induction l with
  | nil => intro u hu; cases hu
  | cons a l ih =>
    intro u hu
    simp only [atrCells, List.mem_cons] at hu
    rcases hu with rfl | rfl | hu
    · rfl
    · rfl
    · exact ih u hu
theorem atrCells_at {l : List Atr} {k : Nat} (hk : k < l.length) : (atrCells l)[k * 2]? = some (sv l[k].1) ∧ (atrCells l)[k * 2 + 1]? = some (sv l[k].2) := by
  induction l generalizing k with
  | nil => simp at hk
  | cons a l ih =>
    match k with
    | 0 => exact ⟨rfl, rfl⟩
    | k + 1 =>
      have hk' : k < l.length := by simpa using hk
      have e1 : (k + 1) * 2 = k * 2 + 1 + 1 := by omega
      have h := ih hk'
      simp only [atrCells, e1, List.getElem?_cons_succ, List.getElem_cons_succ]
      exact h
theorem Atrs.len {w : World} {B n : Nat} {A : Option Addr} {l : List Atr} (h : Atrs w B A n l) : l.length = n := by
  have := h.1
  rw [atrCells_length] at this
  omega

section
variable {w w' : World} {S S' : Nat → Prop} {z n : Nat} {A : Option Addr} {xs : List Value}
theorem RdP.keep (h : RdP w S z A n xs) (hk : ∀ p : Addr, S p.block → w'.cell? p = w.cell? p) : RdP w' S z A n xs :=
  ⟨h.1, fun hn => by
    obtain ⟨a, e, hb, hc⟩ := h.2 hn
    exact ⟨a, e, hb, fun j u hu => (hk _ (by rw [block_add]; exact hb)).trans (hc j u hu)⟩⟩
theorem RdP.more (h : RdP w S z A n xs) (hS : ∀ b, S b → S' b) : RdP w S' z A n xs :=
  ⟨h.1, fun hn => by
    obtain ⟨a, e, hb, hc⟩ := h.2 hn
    exact ⟨a, e, hS _ hb, hc⟩⟩
theorem RdP.nil (w : World) (S : Nat → Prop) (z : Nat) (A : Option Addr) : RdP w S z A 0 [] := ⟨by simp, fun h => absurd rfl h⟩
theorem RdP.of_own {base c : Nat} {e : TypeId} (h : w.ownsRow base e z (.slice A n c) n xs) : RdP w (fun b => base ≤ b ∧ b < w.heap.size) z A n xs := by
  refine ⟨h.1, fun hn => ?_⟩
  have hp : 0 < n := by
    rcases Nat.eq_zero_or_pos n with h0 | h0
    · have := h.1; rw [h0, Nat.zero_mul] at this; exact absurd (List.eq_nil_of_length_eq_zero this) hn
    · exact h0
  obtain ⟨g, cap, hv, hb, hlt⟩ := h.form hp
  have hA : A = some ⟨g, 0, none⟩ := by injection hv
  subst hA
  exact ⟨_, rfl, ⟨hb, hlt⟩, h.cells (g := g) rfl⟩
end

section
variable {w w' : World} {S S' : Nat → Prop}
mutual
theorem NIsP.keep (hk : ∀ p : Addr, S p.block → w'.cell? p = w.cell? p) : ∀ {n : Nd} {cs : List Value}, NIsP w S n cs → NIsP w' S n cs
  | .mk _ _ _ _ kids, _, h => by
    simp only [NIsP] at h ⊢
    obtain ⟨A, n, c, A', n', c', xs, e, h1, h2, h3, h4, h5⟩ := h
    exact ⟨A, n, c, A', n', c', xs, e, h1, h2.keep hk, h3, h4.keep hk, NsIsP.keep hk h5⟩
theorem NsIsP.keep (hk : ∀ p : Addr, S p.block → w'.cell? p = w.cell? p) : ∀ {l : List Nd} {cs : List Value}, NsIsP w S l cs → NsIsP w' S l cs
  | [], _, h => by simp only [NsIsP] at h ⊢; exact h
  | _ :: _, _, h => by
    simp only [NsIsP] at h ⊢
    obtain ⟨a, b, e, h1, h2⟩ := h
    exact ⟨a, b, e, NIsP.keep hk h1, NsIsP.keep hk h2⟩
end
mutual
theorem NIsP.more (hS : ∀ b, S b → S' b) : ∀ {n : Nd} {cs : List Value}, NIsP w S n cs → NIsP w S' n cs
  | .mk _ _ _ _ kids, _, h => by
    simp only [NIsP] at h ⊢
    obtain ⟨A, n, c, A', n', c', xs, e, h1, h2, h3, h4, h5⟩ := h
    exact ⟨A, n, c, A', n', c', xs, e, h1, h2.more hS, h3, h4.more hS, NsIsP.more hS h5⟩
theorem NsIsP.more (hS : ∀ b, S b → S' b) : ∀ {l : List Nd} {cs : List Value}, NsIsP w S l cs → NsIsP w S' l cs
  | [], _, h => by simp only [NsIsP] at h ⊢; exact h
  | _ :: _, _, h => by
    simp only [NsIsP] at h ⊢
    obtain ⟨a, b, e, h1, h2⟩ := h
    exact ⟨a, b, e, NIsP.more hS h1, NsIsP.more hS h2⟩
end
theorem NIsP.five {n : Nd} {cs : List Value} (h : NIsP w S n cs) : cs.length = 5 := by
  cases n
  simp only [NIsP] at h
  obtain ⟨A, n, c, A', n', c', xs, rfl, _⟩ := h
  rfl
theorem NIsP.one {n : Nd} {cs : List Value} (h : NIsP w S n cs) : ∀ u ∈ cs, u.oneCell' = true := by
  cases n
  simp only [NIsP] at h
  obtain ⟨A, n, c, A', n', c', xs, rfl, _⟩ := h
  intro u hu
  simp at hu
  rcases hu with rfl | rfl | rfl | rfl | rfl <;> rfl
theorem NsIsP.len {l : List Nd} {cs : List Value} (h : NsIsP w S l cs) : cs.length = l.length * 5 := by
  induction l generalizing cs with
  | nil => simp only [NsIsP] at h; subst h; rfl
  | cons n l ih =>
    simp only [NsIsP] at h
    obtain ⟨a, b, rfl, h1, h2⟩ := h
    rw [List.length_append, h1.five, ih h2, List.length_cons]
    omega
theorem NsIsP.one {l : List Nd} {cs : List Value} (h : NsIsP w S l cs) : ∀ u ∈ cs, u.oneCell' = true := by
  induction l generalizing cs with
  | nil => simp only [NsIsP] at h; subst h; intro u hu; cases hu
  | cons n l ih =>
    simp only [NsIsP] at h
    obtain ⟨a, b, rfl, h1, h2⟩ := h
    intro u hu
    rcases List.mem_append.1 hu with hu | hu
    · exact h1.one u hu
    · exact ih h2 u hu
theorem NsIsP.append {l m : List Nd} {xs ys : List Value} (h : NsIsP w S l xs) (h' : NsIsP w S m ys) : NsIsP w S (l ++ m) (xs ++ ys) := by
  induction l generalizing xs with
  | nil => simp only [NsIsP] at h; subst h; exact h'
  | cons n l ih =>
    simp only [NsIsP] at h
    obtain ⟨a, b, rfl, h1, h2⟩ := h
    rw [List.cons_append, List.append_assoc]
    simp only [NsIsP]
    exact ⟨a, b ++ ys, rfl, h1, ih h2⟩
theorem NsIsP.single {n : Nd} {cs : List Value} (h : NIsP w S n cs) : NsIsP w S [n] cs := by
  simp only [NsIsP]
  exact ⟨cs, [], by simp, h, rfl⟩
theorem NsIsP.nil (w : World) (S : Nat → Prop) : NsIsP w S [] [] := by simp only [NsIsP]
/-- the node at k, among the cells -/
theorem NsIsP.at_ {l : List Nd} {cs : List Value} (h : NsIsP w S l cs) {k : Nat} (hk : k < l.length) : ∃ a, NIsP w S l[k] a ∧ ∀ j, j < 5 → cs[k * 5 + j]? = a[j]? := by
  induction l generalizing cs k with
  | nil => simp at hk
  | cons n l ih =>
    simp only [NsIsP] at h
    obtain ⟨a, b, rfl, h1, h2⟩ := h
    have h5 := h1.five
    match k with
    | 0 =>
      refine ⟨a, h1, fun j hj => ?_⟩
      rw [List.getElem?_append_left (by omega), Nat.zero_mul, Nat.zero_add]
    | k + 1 =>
      obtain ⟨a', h3, h4⟩ := ih h2 (k := k) (by simpa using hk)
      refine ⟨a', h3, fun j hj => ?_⟩
      rw [List.getElem?_append_right (by omega), ← h4 j hj]
      congr 1
      omega
theorem NsIsP.drop {l : List Nd} {cs : List Value} (h : NsIsP w S l cs) (k : Nat) : NsIsP w S (l.drop k) (cs.drop (k * 5)) := by
  induction l generalizing cs k with
  | nil => simp only [NsIsP] at h; subst h; simp [NsIsP]
  | cons n l ih =>
    match k with
    | 0 => simpa using h
    | k + 1 =>
      simp only [NsIsP] at h
      obtain ⟨a, b, rfl, h1, h2⟩ := h
      have h5 := h1.five
      rw [show (k + 1) * 5 = a.length + k * 5 by omega, List.drop_length_add_append, List.drop_succ_cons]
      exact ih h2 k
theorem NsIsP.take {l : List Nd} {cs : List Value} (h : NsIsP w S l cs) (k : Nat) : NsIsP w S (l.take k) (cs.take (k * 5)) := by
  induction l generalizing cs k with
  | nil => simp only [NsIsP] at h; subst h; simp [NsIsP]
  | cons n l ih =>
    match k with
    | 0 => simp [NsIsP]
    | k + 1 =>
      simp only [NsIsP] at h
      obtain ⟨a, b, rfl, h1, h2⟩ := h
      have h5 := h1.five
      rw [show (k + 1) * 5 = a.length + k * 5 by omega, List.take_length_add_append, List.take_succ_cons]
      simp only [NsIsP]
      exact ⟨a, _, rfl, h1, ih h2 k⟩
theorem NIsP.mk' {k : Int} {nm : List UInt8} {ats : List Atr} {tx : List UInt8} {kids : List Nd} {A A' : Option Addr} {n c n' c' : Nat} (h1 : n ≤ c) (h2 : RdP w S 2 A n (atrCells ats)) (h3 : n' ≤ c') (h4 : NodesP w S A' n' kids) :
    NIsP w S (.mk k nm ats tx kids) [.int .i64 k, sv nm, .slice A n c, sv tx, .slice A' n' c'] := by
  obtain ⟨xs, h5, h6⟩ := h4
  simp only [NIsP]
  exact ⟨A, n, c, A', n', c', xs, rfl, h1, h2, h3, h5, h6⟩
theorem NodesP.keep {A : Option Addr} {n : Nat} {l : List Nd} (h : NodesP w S A n l) (hk : ∀ p : Addr, S p.block → w'.cell? p = w.cell? p) : NodesP w' S A n l := by
  obtain ⟨xs, h1, h2⟩ := h
  exact ⟨xs, h1.keep hk, h2.keep hk⟩
theorem NodesP.more {A : Option Addr} {n : Nat} {l : List Nd} (h : NodesP w S A n l) (hS : ∀ b, S b → S' b) : NodesP w S' A n l := by
  obtain ⟨xs, h1, h2⟩ := h
  exact ⟨xs, h1.more hS, h2.more hS⟩
theorem NodesP.len {A : Option Addr} {n : Nat} {l : List Nd} (h : NodesP w S A n l) : l.length = n := by
  obtain ⟨xs, h1, h2⟩ := h
  have := h1.1
  rw [h2.len] at this
  omega
theorem NodesP.nil (w : World) (S : Nat → Prop) (A : Option Addr) : NodesP w S A 0 [] := ⟨[], RdP.nil w S 5 A, NsIsP.nil w S⟩
theorem NodesP.lt {A : Option Addr} {n B : Nat} {l : List Nd} (h : NodesP w S A n l) (hS : ∀ b, S b → b < B) : Nodes w B A n l := by
  obtain ⟨xs, h1, h2⟩ := h
  exact ⟨xs, h1.more hS, h2.more hS⟩
end

section
variable {w w' : World} {B B' : Nat}
theorem NIs.keep (hk : ∀ p : Addr, p.block < B → w'.cell? p = w.cell? p) {n : Nd} {cs : List Value} (h : NIs w B n cs) : NIs w' B n cs := NIsP.keep hk h
theorem NsIs.keep (hk : ∀ p : Addr, p.block < B → w'.cell? p = w.cell? p) {l : List Nd} {cs : List Value} (h : NsIs w B l cs) : NsIs w' B l cs := NsIsP.keep hk h
theorem NIs.more (hB : B ≤ B') {n : Nd} {cs : List Value} (h : NIs w B n cs) : NIs w B' n cs := NIsP.more (fun _ hb => Nat.lt_of_lt_of_le hb hB) h
theorem NsIs.more (hB : B ≤ B') {l : List Nd} {cs : List Value} (h : NsIs w B l cs) : NsIs w B' l cs := NsIsP.more (fun _ hb => Nat.lt_of_lt_of_le hb hB) h
theorem NIs.five {n : Nd} {cs : List Value} (h : NIs w B n cs) : cs.length = 5 := NIsP.five h
theorem NsIs.len {l : List Nd} {cs : List Value} (h : NsIs w B l cs) : cs.length = l.length * 5 := NsIsP.len h
theorem NsIs.one {l : List Nd} {cs : List Value} (h : NsIs w B l cs) : ∀ u ∈ cs, u.oneCell' = true := NsIsP.one h
theorem NsIs.append {l m : List Nd} {xs ys : List Value} (h : NsIs w B l xs) (h' : NsIs w B m ys) : NsIs w B (l ++ m) (xs ++ ys) := NsIsP.append h h'
theorem NsIs.single {n : Nd} {cs : List Value} (h : NIs w B n cs) : NsIs w B [n] cs := NsIsP.single h
theorem NIs.mk' {k : Int} {nm : List UInt8} {ats : List Atr} {tx : List UInt8} {kids : List Nd} {A A' : Option Addr} {n c n' c' : Nat} (h1 : n ≤ c) (h2 : Atrs w B A n ats) (h3 : n' ≤ c') (h4 : Nodes w B A' n' kids) :
    NIs w B (.mk k nm ats tx kids) [.int .i64 k, sv nm, .slice A n c, sv tx, .slice A' n' c'] := NIsP.mk' h1 h2 h3 h4

section
variable {A : Option Addr} {n : Nat} {l : List Nd}
theorem Nodes.len (h : Nodes w B A n l) : l.length = n := NodesP.len h
theorem Nodes.keep (h : Nodes w B A n l) (hk : ∀ p : Addr, p.block < B → w'.cell? p = w.cell? p) : Nodes w' B A n l := NodesP.keep h hk
theorem Nodes.more (h : Nodes w B A n l) (hB : B ≤ B') : Nodes w B' A n l := NodesP.more h (fun _ hb => Nat.lt_of_lt_of_le hb hB)
theorem Nodes.below (h : Nodes w B A n l) (hb : Below B w w') : Nodes w' B A n l := h.keep fun _ hp => hb.cell hp
theorem Nodes.on (h : Nodes w w.heap.size A n l) (hb : Below w.heap.size w w') : Nodes w' w'.heap.size A n l := (h.below hb).more hb.size
theorem Nodes.nil (w : World) (B : Nat) (A : Option Addr) : Nodes w B A 0 [] := NodesP.nil w _ A
theorem Nodes.cut (h : Nodes w B A n l) {k cap : Nat} (hk : k ≤ n) (hc : n ≤ cap) : Nodes w B (if cap = k then A else A.map (·.add (k * 5))) (n - k) (l.drop k) := by
  obtain ⟨xs, h1, h2⟩ := h
  exact ⟨_, Rd.cut (B := B) h1 hk hc, NsIsP.drop h2 k⟩
theorem Nodes.take (h : Nodes w B A n l) {k : Nat} (hk : k ≤ n) : Nodes w B A k (l.take k) := by
  obtain ⟨xs, h1, h2⟩ := h
  exact ⟨_, Rd.take (B := B) h1 hk, NsIsP.take h2 k⟩
/-- the node at k: its five cells -/
theorem Nodes.at_ (h : Nodes w B A n l) {k : Nat} (hk : k < n) (hk' : k < l.length) : ∃ a A1 n1 c1 A2 n2 c2, A = some a ∧ a.block < B ∧
    w.cell? (a.add (k * 5)) = some (.int .i64 l[k].kind) ∧ w.cell? (a.add (k * 5 + 1)) = some (sv l[k].name) ∧ w.cell? (a.add (k * 5 + 2)) = some (.slice A1 n1 c1) ∧
    w.cell? (a.add (k * 5 + 3)) = some (sv l[k].text) ∧ w.cell? (a.add (k * 5 + 4)) = some (.slice A2 n2 c2) ∧ n1 ≤ c1 ∧ Atrs w B A1 n1 l[k].attrs ∧ n2 ≤ c2 ∧ Nodes w B A2 n2 l[k].kids := by
  obtain ⟨xs, h1, h2⟩ := h
  have hl := h2.len
  obtain ⟨a, rfl, hb, hc⟩ := h1.2 (by intro e; subst e; simp at hl; omega)
  obtain ⟨cs, h3, h4⟩ := NsIsP.at_ h2 hk'
  generalize l[k] = nd at h3 ⊢
  cases nd with
  | mk kd nm ats tx kids =>
    simp only [NIsP] at h3
    obtain ⟨A1, n1, c1, A2, n2, c2, ys, rfl, g1, g2, g3, g4, g5⟩ := h3
    exact ⟨a, A1, n1, c1, A2, n2, c2, rfl, hb, hc _ _ (by rw [← Nat.add_zero (k * 5), h4 0 (by omega)]; rfl), hc _ _ (by rw [h4 1 (by omega)]; rfl), hc _ _ (by rw [h4 2 (by omega)]; rfl),
      hc _ _ (by rw [h4 3 (by omega)]; rfl), hc _ _ (by rw [h4 4 (by omega)]; rfl), g1, g2, g3, ⟨ys, g4, g5⟩⟩
end
end
/-- the attribute at k -/
theorem Atrs.at_ {w : World} {B n : Nat} {A : Option Addr} {l : List Atr} (h : Atrs w B A n l) {k : Nat} (hk : k < n) (hk' : k < l.length) :
    ∃ a, A = some a ∧ a.block < B ∧ w.cell? (a.add (k * 2)) = some (sv l[k].1) ∧ w.cell? (a.add (k * 2 + 1)) = some (sv l[k].2) := by
  have hl := atrCells_length l
  obtain ⟨a, rfl, hb, hc⟩ := h.2 (by intro e; rw [e] at hl; simp at hl; omega)
  obtain ⟨e1, e2⟩ := atrCells_at hk'
  exact ⟨a, rfl, hb, hc _ _ e1, hc _ _ e2⟩
end Go.Proofs.Ytbipdnnalhdoaaa
