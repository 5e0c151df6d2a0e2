/- Nodes as trees, and how they lie in memory: five cells a node, two an attribute. No program in sight but the model. Plain laws on a tree's text (no program in sight): its ends, the text of nodes, how long it is. A map of the call's own, told by a plain function of its keys: look-ups and stores. No condition. The walks of the package refs: names, Name, digit, character. The walks of the package refs: character, digit. -/
import Derived.KernelRfl
import Derived.Maps.Keyed
import Derived.Maps.Own
import Derived.Maps.OwnOps
import Derived.Test.YtnkelhmjkmeilaaGreatDoorProg
import Derived.WideKeyArgs
import Derived.Test.YtnkelhmjkmeilaaGreatDoorT01
section
namespace Go.Proofs.YtnkelhmjkmeilaaGreatDoor
open Go.RowKit
abbrev Atr := List UInt8 × List UInt8
inductive Nd where
  | mk (kind : Int) (name : List UInt8) (attrs : List Atr) (text : List UInt8) (kids : List Nd)
def Nd.kind : Nd → Int | .mk k _ _ _ _ => k
def Nd.name : Nd → List UInt8 | .mk _ n _ _ _ => n
def Nd.attrs : Nd → List Atr | .mk _ _ a _ _ => a
def Nd.text : Nd → List UInt8 | .mk _ _ _ t _ => t
def Nd.kids : Nd → List Nd | .mk _ _ _ _ k => k
def sv (l : List UInt8) : Value := .string ⟨l.toArray⟩
theorem IsStr.sv {t : ByteArray} {l : List UInt8} (h : IsStr t l) : Value.string t = sv l := by rw [h.to]; rfl
def atrCells : List Atr → List Value
  | [] => []
  | a :: l => sv a.1 :: sv a.2 :: atrCells l
def RdP (w : World) (S : Nat → Prop) (z : Nat) (A : Option Addr) (n : Nat) (xs : List Value) : Prop :=
  xs.length = n * z ∧ (xs ≠ [] → ∃ a, A = some a ∧ S a.block ∧ ∀ j u, xs[j]? = some u → w.cell? (a.add j) = some u)
mutual
def NIsP (w : World) (S : Nat → Prop) : Nd → List Value → Prop
  | .mk k nm ats tx kids, cs => ∃ A n c A' n' c' xs, cs = [.int .i64 k, sv nm, .slice A n c, sv tx, .slice A' n' c'] ∧ n ≤ c ∧ RdP w S 2 A n (atrCells ats) ∧ n' ≤ c' ∧ RdP w S 5 A' n' xs ∧ NsIsP w S kids xs
def NsIsP (w : World) (S : Nat → Prop) : List Nd → List Value → Prop
  | [], cs => cs = []
  | n :: l, cs => ∃ a b, cs = a ++ b ∧ NIsP w S n a ∧ NsIsP w S l b
end
def NodesP (w : World) (S : Nat → Prop) (A : Option Addr) (n : Nat) (l : List Nd) : Prop := ∃ xs, RdP w S 5 A n xs ∧ NsIsP w S l xs
def NIs (w : World) (B : Nat) (n : Nd) (cs : List Value) : Prop := NIsP w (fun b => b < B) n cs
def NsIs (w : World) (B : Nat) (l : List Nd) (cs : List Value) : Prop := NsIsP w (fun b => b < B) l cs
def Nodes (w : World) (B : Nat) (A : Option Addr) (n : Nat) (l : List Nd) : Prop := NodesP w (fun b => b < B) A n l
def Atrs (w : World) (B : Nat) (A : Option Addr) (n : Nat) (l : List Atr) : Prop := Rd w B 2 A n (atrCells l)
theorem atrCells_length (l : List Atr) : (atrCells l).length = l.length * 2 := by
  induction l with
  | nil => rfl
  | cons a l ih => simp only [atrCells, List.length_cons, ih]; omega
theorem atrCells_append (l m : List Atr) : atrCells (l ++ m) = atrCells l ++ atrCells m := by
  induction l with
  | nil => rfl
  | cons a l ih => simp only [atrCells, List.cons_append, ih]
theorem atrCells_one (l : List Atr) : ∀ u ∈ atrCells l, u.oneCell' = true := by
  induction l with
  | nil => intro u hu; cases hu
  | cons a l ih =>
    intro u hu
    simp only [atrCells, List.mem_cons] at hu
    rcases hu with rfl | rfl | hu
    · rfl
    · rfl
    · exact ih u hu
theorem atrCells_at {l : List Atr} {k : Nat} (hk : k < l.length) : (atrCells l)[k * 2]? = some (sv l[k].1) ∧ (atrCells l)[k * 2 + 1]? = some (sv l[k].2) := by
  induction l generalizing k with
  | nil => simp at hk
  | cons a l ih =>
    match k with
    | 0 => exact ⟨rfl, rfl⟩
    | k + 1 =>
      have hk' : k < l.length := by simpa using hk
      have e1 : (k + 1) * 2 = k * 2 + 1 + 1 := by omega
      have h := ih hk'
      simp only [atrCells, e1, List.getElem?_cons_succ, List.getElem_cons_succ]
      exact h
theorem Atrs.len {w : World} {B n : Nat} {A : Option Addr} {l : List Atr} (h : Atrs w B A n l) : l.length = n := by
  have := h.1
  rw [atrCells_length] at this
  omega
section
variable {w w' : World} {S S' : Nat → Prop} {z n : Nat} {A : Option Addr} {xs : List Value}
theorem RdP.keep (h : RdP w S z A n xs) (hk : ∀ p : Addr, S p.block → w'.cell? p = w.cell? p) : RdP w' S z A n xs :=
  ⟨h.1, fun hn => by
    obtain ⟨a, e, hb, hc⟩ := h.2 hn
    exact ⟨a, e, hb, fun j u hu => (hk _ (by rw [block_add]; exact hb)).trans (hc j u hu)⟩⟩
theorem RdP.more (h : RdP w S z A n xs) (hS : ∀ b, S b → S' b) : RdP w S' z A n xs :=
  ⟨h.1, fun hn => by
    obtain ⟨a, e, hb, hc⟩ := h.2 hn
    exact ⟨a, e, hS _ hb, hc⟩⟩
theorem RdP.nil (w : World) (S : Nat → Prop) (z : Nat) (A : Option Addr) : RdP w S z A 0 [] := ⟨by simp, fun h => absurd rfl h⟩
theorem RdP.of_own {base c : Nat} {e : TypeId} (h : w.ownsRow base e z (.slice A n c) n xs) : RdP w (fun b => base ≤ b ∧ b < w.heap.size) z A n xs := by
  refine ⟨h.1, fun hn => ?_⟩
  have hp : 0 < n := by
    rcases Nat.eq_zero_or_pos n with h0 | h0
    · have := h.1; rw [h0, Nat.zero_mul] at this; exact absurd (List.eq_nil_of_length_eq_zero this) hn
    · exact h0
  obtain ⟨g, cap, hv, hb, hlt⟩ := h.form hp
  have hA : A = some ⟨g, 0, none⟩ := by injection hv
  subst hA
  exact ⟨_, rfl, ⟨hb, hlt⟩, h.cells (g := g) rfl⟩
end
section
variable {w w' : World} {S S' : Nat → Prop}
mutual
theorem NIsP.keep (hk : ∀ p : Addr, S p.block → w'.cell? p = w.cell? p) : ∀ {n : Nd} {cs : List Value}, NIsP w S n cs → NIsP w' S n cs
  | .mk _ _ _ _ kids, _, h => by
    simp only [NIsP] at h ⊢
    obtain ⟨A, n, c, A', n', c', xs, e, h1, h2, h3, h4, h5⟩ := h
    exact ⟨A, n, c, A', n', c', xs, e, h1, h2.keep hk, h3, h4.keep hk, NsIsP.keep hk h5⟩
theorem NsIsP.keep (hk : ∀ p : Addr, S p.block → w'.cell? p = w.cell? p) : ∀ {l : List Nd} {cs : List Value}, NsIsP w S l cs → NsIsP w' S l cs
  | [], _, h => by simp only [NsIsP] at h ⊢; exact h
  | _ :: _, _, h => by
    simp only [NsIsP] at h ⊢
    obtain ⟨a, b, e, h1, h2⟩ := h
    exact ⟨a, b, e, NIsP.keep hk h1, NsIsP.keep hk h2⟩
end
mutual
theorem NIsP.more (hS : ∀ b, S b → S' b) : ∀ {n : Nd} {cs : List Value}, NIsP w S n cs → NIsP w S' n cs
  | .mk _ _ _ _ kids, _, h => by
    simp only [NIsP] at h ⊢
    obtain ⟨A, n, c, A', n', c', xs, e, h1, h2, h3, h4, h5⟩ := h
    exact ⟨A, n, c, A', n', c', xs, e, h1, h2.more hS, h3, h4.more hS, NsIsP.more hS h5⟩
theorem NsIsP.more (hS : ∀ b, S b → S' b) : ∀ {l : List Nd} {cs : List Value}, NsIsP w S l cs → NsIsP w S' l cs
  | [], _, h => by simp only [NsIsP] at h ⊢; exact h
  | _ :: _, _, h => by
    simp only [NsIsP] at h ⊢
    obtain ⟨a, b, e, h1, h2⟩ := h
    exact ⟨a, b, e, NIsP.more hS h1, NsIsP.more hS h2⟩
end
theorem NIsP.five {n : Nd} {cs : List Value} (h : NIsP w S n cs) : cs.length = 5 := by
  cases n
  simp only [NIsP] at h
  obtain ⟨A, n, c, A', n', c', xs, rfl, _⟩ := h
  rfl
theorem NIsP.one {n : Nd} {cs : List Value} (h : NIsP w S n cs) : ∀ u ∈ cs, u.oneCell' = true := by
  cases n
  simp only [NIsP] at h
  obtain ⟨A, n, c, A', n', c', xs, rfl, _⟩ := h
  intro u hu
  simp at hu
  rcases hu with rfl | rfl | rfl | rfl | rfl <;> rfl
theorem NsIsP.len {l : List Nd} {cs : List Value} (h : NsIsP w S l cs) : cs.length = l.length * 5 := by
  induction l generalizing cs with
  | nil => simp only [NsIsP] at h; subst h; rfl
  | cons n l ih =>
    simp only [NsIsP] at h
    obtain ⟨a, b, rfl, h1, h2⟩ := h
    rw [List.length_append, h1.five, ih h2, List.length_cons]
    omega
theorem NsIsP.one {l : List Nd} {cs : List Value} (h : NsIsP w S l cs) : ∀ u ∈ cs, u.oneCell' = true := by
  induction l generalizing cs with
  | nil => simp only [NsIsP] at h; subst h; intro u hu; cases hu
  | cons n l ih =>
    simp only [NsIsP] at h
    obtain ⟨a, b, rfl, h1, h2⟩ := h
    intro u hu
    rcases List.mem_append.1 hu with hu | hu
    · exact h1.one u hu
    · exact ih h2 u hu
theorem NsIsP.append {l m : List Nd} {xs ys : List Value} (h : NsIsP w S l xs) (h' : NsIsP w S m ys) : NsIsP w S (l ++ m) (xs ++ ys) := by
  induction l generalizing xs with
  | nil => simp only [NsIsP] at h; subst h; exact h'
  | cons n l ih =>
    simp only [NsIsP] at h
    obtain ⟨a, b, rfl, h1, h2⟩ := h
    rw [List.cons_append, List.append_assoc]
    simp only [NsIsP]
    exact ⟨a, b ++ ys, rfl, h1, ih h2⟩
theorem NsIsP.single {n : Nd} {cs : List Value} (h : NIsP w S n cs) : NsIsP w S [n] cs := by
  simp only [NsIsP]
  exact ⟨cs, [], by simp, h, rfl⟩
theorem NsIsP.nil (w : World) (S : Nat → Prop) : NsIsP w S [] [] := by simp only [NsIsP]
theorem NsIsP.at_ {l : List Nd} {cs : List Value} (h : NsIsP w S l cs) {k : Nat} (hk : k < l.length) : ∃ a, NIsP w S l[k] a ∧ ∀ j, j < 5 → cs[k * 5 + j]? = a[j]? := by
  induction l generalizing cs k with
  | nil => simp at hk
  | cons n l ih =>
    simp only [NsIsP] at h
    obtain ⟨a, b, rfl, h1, h2⟩ := h
    have h5 := h1.five
    match k with
    | 0 =>
      refine ⟨a, h1, fun j hj => ?_⟩
      rw [List.getElem?_append_left (by omega), Nat.zero_mul, Nat.zero_add]
    | k + 1 =>
      obtain ⟨a', h3, h4⟩ := ih h2 (k := k) (by simpa using hk)
      refine ⟨a', h3, fun j hj => ?_⟩
      rw [List.getElem?_append_right (by omega), ← h4 j hj]
      congr 1
      omega
theorem NsIsP.drop {l : List Nd} {cs : List Value} (h : NsIsP w S l cs) (k : Nat) : NsIsP w S (l.drop k) (cs.drop (k * 5)) := by
  induction l generalizing cs k with
  | nil => simp only [NsIsP] at h; subst h; simp [NsIsP]
  | cons n l ih =>
    match k with
    | 0 => simpa using h
    | k + 1 =>
      simp only [NsIsP] at h
      obtain ⟨a, b, rfl, h1, h2⟩ := h
      have h5 := h1.five
      rw [show (k + 1) * 5 = a.length + k * 5 by omega, List.drop_length_add_append, List.drop_succ_cons]
      exact ih h2 k
theorem NsIsP.take {l : List Nd} {cs : List Value} (h : NsIsP w S l cs) (k : Nat) : NsIsP w S (l.take k) (cs.take (k * 5)) := by
  induction l generalizing cs k with
  | nil => simp only [NsIsP] at h; subst h; simp [NsIsP]
  | cons n l ih =>
    match k with
    | 0 => simp [NsIsP]
    | k + 1 =>
      simp only [NsIsP] at h
      obtain ⟨a, b, rfl, h1, h2⟩ := h
      have h5 := h1.five
      rw [show (k + 1) * 5 = a.length + k * 5 by omega, List.take_length_add_append, List.take_succ_cons]
      simp only [NsIsP]
      exact ⟨a, _, rfl, h1, ih h2 k⟩
theorem NIsP.mk' {k : Int} {nm : List UInt8} {ats : List Atr} {tx : List UInt8} {kids : List Nd} {A A' : Option Addr} {n c n' c' : Nat} (h1 : n ≤ c) (h2 : RdP w S 2 A n (atrCells ats)) (h3 : n' ≤ c') (h4 : NodesP w S A' n' kids) :
    NIsP w S (.mk k nm ats tx kids) [.int .i64 k, sv nm, .slice A n c, sv tx, .slice A' n' c'] := by
  obtain ⟨xs, h5, h6⟩ := h4
  simp only [NIsP]
  exact ⟨A, n, c, A', n', c', xs, rfl, h1, h2, h3, h5, h6⟩
theorem NodesP.keep {A : Option Addr} {n : Nat} {l : List Nd} (h : NodesP w S A n l) (hk : ∀ p : Addr, S p.block → w'.cell? p = w.cell? p) : NodesP w' S A n l := by
  obtain ⟨xs, h1, h2⟩ := h
  exact ⟨xs, h1.keep hk, h2.keep hk⟩
theorem NodesP.more {A : Option Addr} {n : Nat} {l : List Nd} (h : NodesP w S A n l) (hS : ∀ b, S b → S' b) : NodesP w S' A n l := by
  obtain ⟨xs, h1, h2⟩ := h
  exact ⟨xs, h1.more hS, h2.more hS⟩
theorem NodesP.len {A : Option Addr} {n : Nat} {l : List Nd} (h : NodesP w S A n l) : l.length = n := by
  obtain ⟨xs, h1, h2⟩ := h
  have := h1.1
  rw [h2.len] at this
  omega
theorem NodesP.nil (w : World) (S : Nat → Prop) (A : Option Addr) : NodesP w S A 0 [] := ⟨[], RdP.nil w S 5 A, NsIsP.nil w S⟩
theorem NodesP.lt {A : Option Addr} {n B : Nat} {l : List Nd} (h : NodesP w S A n l) (hS : ∀ b, S b → b < B) : Nodes w B A n l := by
  obtain ⟨xs, h1, h2⟩ := h
  exact ⟨xs, h1.more hS, h2.more hS⟩
end
section
variable {w w' : World} {B B' : Nat}
theorem NIs.keep (hk : ∀ p : Addr, p.block < B → w'.cell? p = w.cell? p) {n : Nd} {cs : List Value} (h : NIs w B n cs) : NIs w' B n cs := NIsP.keep hk h
theorem NsIs.keep (hk : ∀ p : Addr, p.block < B → w'.cell? p = w.cell? p) {l : List Nd} {cs : List Value} (h : NsIs w B l cs) : NsIs w' B l cs := NsIsP.keep hk h
theorem NIs.more (hB : B ≤ B') {n : Nd} {cs : List Value} (h : NIs w B n cs) : NIs w B' n cs := NIsP.more (fun _ hb => Nat.lt_of_lt_of_le hb hB) h
theorem NsIs.more (hB : B ≤ B') {l : List Nd} {cs : List Value} (h : NsIs w B l cs) : NsIs w B' l cs := NsIsP.more (fun _ hb => Nat.lt_of_lt_of_le hb hB) h
theorem NIs.five {n : Nd} {cs : List Value} (h : NIs w B n cs) : cs.length = 5 := NIsP.five h
theorem NsIs.len {l : List Nd} {cs : List Value} (h : NsIs w B l cs) : cs.length = l.length * 5 := NsIsP.len h
theorem NsIs.one {l : List Nd} {cs : List Value} (h : NsIs w B l cs) : ∀ u ∈ cs, u.oneCell' = true := NsIsP.one h
theorem NsIs.append {l m : List Nd} {xs ys : List Value} (h : NsIs w B l xs) (h' : NsIs w B m ys) : NsIs w B (l ++ m) (xs ++ ys) := NsIsP.append h h'
theorem NsIs.single {n : Nd} {cs : List Value} (h : NIs w B n cs) : NsIs w B [n] cs := NsIsP.single h
theorem NIs.mk' {k : Int} {nm : List UInt8} {ats : List Atr} {tx : List UInt8} {kids : List Nd} {A A' : Option Addr} {n c n' c' : Nat} (h1 : n ≤ c) (h2 : Atrs w B A n ats) (h3 : n' ≤ c') (h4 : Nodes w B A' n' kids) :
    NIs w B (.mk k nm ats tx kids) [.int .i64 k, sv nm, .slice A n c, sv tx, .slice A' n' c'] := NIsP.mk' h1 h2 h3 h4
section
variable {A : Option Addr} {n : Nat} {l : List Nd}
theorem Nodes.len (h : Nodes w B A n l) : l.length = n := NodesP.len h
theorem Nodes.keep (h : Nodes w B A n l) (hk : ∀ p : Addr, p.block < B → w'.cell? p = w.cell? p) : Nodes w' B A n l := NodesP.keep h hk
theorem Nodes.more (h : Nodes w B A n l) (hB : B ≤ B') : Nodes w B' A n l := NodesP.more h (fun _ hb => Nat.lt_of_lt_of_le hb hB)
theorem Nodes.below (h : Nodes w B A n l) (hb : Below B w w') : Nodes w' B A n l := h.keep fun _ hp => hb.cell hp
theorem Nodes.on (h : Nodes w w.heap.size A n l) (hb : Below w.heap.size w w') : Nodes w' w'.heap.size A n l := (h.below hb).more hb.size
theorem Nodes.nil (w : World) (B : Nat) (A : Option Addr) : Nodes w B A 0 [] := NodesP.nil w _ A
theorem Nodes.cut (h : Nodes w B A n l) {k cap : Nat} (hk : k ≤ n) (hc : n ≤ cap) : Nodes w B (if cap = k then A else A.map (·.add (k * 5))) (n - k) (l.drop k) := by
  obtain ⟨xs, h1, h2⟩ := h
  exact ⟨_, Rd.cut (B := B) h1 hk hc, NsIsP.drop h2 k⟩
theorem Nodes.take (h : Nodes w B A n l) {k : Nat} (hk : k ≤ n) : Nodes w B A k (l.take k) := by
  obtain ⟨xs, h1, h2⟩ := h
  exact ⟨_, Rd.take (B := B) h1 hk, NsIsP.take h2 k⟩
theorem Nodes.at_ (h : Nodes w B A n l) {k : Nat} (_hk : k < n) (hk' : k < l.length) : ∃ a A1 n1 c1 A2 n2 c2, A = some a ∧ a.block < B ∧
    w.cell? (a.add (k * 5)) = some (.int .i64 l[k].kind) ∧ w.cell? (a.add (k * 5 + 1)) = some (sv l[k].name) ∧ w.cell? (a.add (k * 5 + 2)) = some (.slice A1 n1 c1) ∧
    w.cell? (a.add (k * 5 + 3)) = some (sv l[k].text) ∧ w.cell? (a.add (k * 5 + 4)) = some (.slice A2 n2 c2) ∧ n1 ≤ c1 ∧ Atrs w B A1 n1 l[k].attrs ∧ n2 ≤ c2 ∧ Nodes w B A2 n2 l[k].kids := by
  obtain ⟨xs, h1, h2⟩ := h
  have hl := h2.len
  obtain ⟨a, rfl, hb, hc⟩ := h1.2 (by intro e; subst e; simp at hl; omega)
  obtain ⟨cs, h3, h4⟩ := NsIsP.at_ h2 hk'
  generalize l[k] = nd at h3 ⊢
  cases nd with
  | mk kd nm ats tx kids =>
    simp only [NIsP] at h3
    obtain ⟨A1, n1, c1, A2, n2, c2, ys, rfl, g1, g2, g3, g4, g5⟩ := h3
    exact ⟨a, A1, n1, c1, A2, n2, c2, rfl, hb, hc _ _ (by rw [← Nat.add_zero (k * 5), h4 0 (by omega)]; rfl), hc _ _ (by rw [h4 1 (by omega)]; rfl), hc _ _ (by rw [h4 2 (by omega)]; rfl),
      hc _ _ (by rw [h4 3 (by omega)]; rfl), hc _ _ (by rw [h4 4 (by omega)]; rfl), g1, g2, g3, ⟨ys, g4, g5⟩⟩
end
end
theorem Atrs.at_ {w : World} {B n : Nat} {A : Option Addr} {l : List Atr} (h : Atrs w B A n l) {k : Nat} (_hk : k < n) (hk' : k < l.length) :
    ∃ a, A = some a ∧ a.block < B ∧ w.cell? (a.add (k * 2)) = some (sv l[k].1) ∧ w.cell? (a.add (k * 2 + 1)) = some (sv l[k].2) := by
  have hl := atrCells_length l
  obtain ⟨a, rfl, hb, hc⟩ := h.2 (by intro e; rw [e] at hl; simp at hl; omega)
  obtain ⟨e1, e2⟩ := atrCells_at hk'
  exact ⟨a, rfl, hb, hc _ _ e1, hc _ _ e2⟩
end Go.Proofs.YtnkelhmjkmeilaaGreatDoor
end
section
namespace Go.Proofs.YtnkelhmjkmeilaaGreatDoor
def voidL (l : List UInt8) : Bool := l == [98, 114] || (l == [104, 114] || (l == [105, 109, 103] || (l == [105, 110, 112, 117, 116] || l == [119, 98, 114])))
def rawL (l : List UInt8) : Bool := l == [115, 99, 114, 105, 112, 116] || l == [115, 116, 121, 108, 101]
def atrL (a : Atr) : List UInt8 := [32] ++ (a.1 ++ ([61, 34] ++ (esc true a.2 ++ [34])))
def opL (n : Nd) : List UInt8 := if n.kind = 1 then [60] ++ (n.name ++ (n.attrs.flatMap atrL ++ [62])) else []
def clL (n : Nd) : List UInt8 := if n.kind = 1 ∧ voidL n.name = false then [60, 47] ++ (n.name ++ [62]) else []
mutual
def oneL (raw : Bool) : Nd → List UInt8
  | .mk k nm ats tx kids =>
    if k = 1 then opL (.mk k nm ats tx kids) ++ (if voidL nm then [] else kidsL (rawL nm) kids ++ clL (.mk k nm ats tx kids))
    else if k = 2 then (if raw then tx else esc false tx)
    else if k = 3 then [60, 33, 45, 45] ++ (tx ++ [45, 45, 62]) else []
def kidsL (raw : Bool) : List Nd → List UInt8
  | [] => []
  | n :: l => oneL raw n ++ kidsL raw l
end
def textL (l : List Nd) : List UInt8 := kidsL false l
mutual
def wt1 : Nd → Nat
  | .mk _ _ _ _ kids => 2 + wtL kids
def wtL : List Nd → Nat
  | [] => 0
  | n :: l => wt1 n + wtL l
end
theorem wt1_eq (n : Nd) : wt1 n = 2 + wtL n.kids := by cases n; simp only [wt1, Nd.kids]
theorem oneL_void (raw : Bool) (n : Nd) (h : n.kind = 1) (hv : voidL n.name = true) : oneL raw n = opL n := by
  cases n; simp only [Nd.kind, Nd.name] at h hv; simp [oneL, h, hv]
theorem oneL_elem (raw : Bool) (n : Nd) (h : n.kind = 1) (hv : voidL n.name = false) : oneL raw n = opL n ++ (kidsL (rawL n.name) n.kids ++ clL n) := by
  cases n; simp only [Nd.kind, Nd.name] at h hv; simp [oneL, h, hv, Nd.name, Nd.kids]
theorem oneL_raw (n : Nd) (h : n.kind = 2) : oneL true n = n.text := by
  cases n; simp only [Nd.kind] at h; simp [oneL, h, Nd.text]
theorem oneL_text (n : Nd) (h : n.kind = 2) : oneL false n = esc false n.text := by
  cases n; simp only [Nd.kind] at h; simp [oneL, h, Nd.text]
theorem oneL_comment (raw : Bool) (n : Nd) (h : n.kind = 3) : oneL raw n = [60, 33, 45, 45] ++ (n.text ++ [45, 45, 62]) := by
  cases n; simp only [Nd.kind] at h; simp [oneL, h, Nd.text]
theorem oneL_other (raw : Bool) (n : Nd) (h1 : n.kind ≠ 1) (h2 : n.kind ≠ 2) (h3 : n.kind ≠ 3) : oneL raw n = [] := by
  cases n; simp only [Nd.kind] at h1 h2 h3; simp [oneL, h1, h2, h3]
end Go.Proofs.YtnkelhmjkmeilaaGreatDoor
end
section
namespace Go.Proofs.YtnkelhmjkmeilaaGreatDoor
open Go.RowKit Go.Maps
open Go.ChangeMaps (setBlock heap_setBlock_same heap_setBlock_other modify_eq_set)
def MapIs (P : Program) (k : TypeId) (w : World) (b n : Nat) (f : Value → Option Value) : Prop :=
  ∃ es clock, w.heap[b]? = some (.map es clock) ∧ es.size ≤ n ∧ (∀ e ∈ es.toList, ∃ l, keyOf P k e.key = some l) ∧ es.toList.Pairwise (fun x y => x.key ≠ y.key) ∧
    (∀ e ∈ es.toList, f e.key = some e.val) ∧ ∀ key v, f key = some v → ∃ e ∈ es.toList, e.key = key ∧ e.val = v
section
variable {P : Program} {k : TypeId} {w w' : World} {b n : Nat} {f : Value → Option Value}
theorem MapIs.made (P : Program) (k : TypeId) (w : World) : MapIs P k (w.alloc (.map #[] 0)) w.heap.size 0 (fun _ => none) :=
  ⟨#[], 0, heap_alloc_new w _, by simp, by simp, by simp, by simp, by simp⟩
theorem MapIs.lt (h : MapIs P k w b n f) : b < w.heap.size := by
  obtain ⟨es, clock, hb, _⟩ := h
  exact (Array.getElem?_eq_some_iff.1 hb).1
theorem MapIs.block (h : MapIs P k w b n f) (hb : w'.heap[b]? = w.heap[b]?) : MapIs P k w' b n f := by
  obtain ⟨es, clock, h1, rest⟩ := h
  exact ⟨es, clock, hb.trans h1, rest⟩
theorem MapIs.below {B : Nat} (h : MapIs P k w b n f) (hb : Below B w w') (hB : b < B) : MapIs P k w' b n f := h.block (hb.block b hB)
theorem MapIs.alloc (h : MapIs P k w b n f) (o : Obj) : MapIs P k (w.alloc o) b n f := h.block (Below.heap_alloc w o b h.lt)
theorem MapIs.drew (h : MapIs P k w b n f) : MapIs P k w.drew b n f := h
theorem MapIs.drewN (h : MapIs P k w b n f) (m : Nat) : MapIs P k (w.drewN m) b n f := h
theorem MapIs.setCell (h : MapIs P k w b n f) {p : Addr} (hp : b ≠ p.block) (v : Value) : MapIs P k (w.setCell p v) b n f := h.block (Below.heap_setCell w p v b hp)
theorem MapIs.grown {row : Option Nat} (h : MapIs P k w b n f) (hg : w.grownBy w' row) (hne : some b ≠ row) : MapIs P k w' b n f := h.block (hg.block b h.lt hne)
theorem MapIs.own_ne {base z m : Nat} {e : TypeId} {v : Value} {xs : List Value} (h : MapIs P k w b n f) (ho : w.ownsRow base e z v m xs) : some b ≠ v.ownBlock := by
  obtain ⟨es, clock, hb, _⟩ := h
  rcases ho.2 with ⟨rfl, _⟩ | ⟨g, cap, cur, rfl, _, hh, _⟩
  · simp [Value.ownBlock]
  · intro e1
    have : b = g := by simpa [Value.ownBlock] using e1
    subst this
    rw [hh] at hb
    cases hb
theorem MapIs.look (h : MapIs P k w b n f) (K : Keyed P k) {t e : TypeId} (ht : P.underlying t = some (.map k e)) {z : Value} (hz : (zeroValue e).run P w = .ok z w) {key : Value} {kl : Lit} (hkey : keyOf P k key = some kl) (c : Bool) :
    (Instr.lookup t (.map (some b)) key c).run P w = .ok (match f key with
      | none => if c then .tuple #[z, .bool false] else z
      | some v => if c then .tuple #[v, .bool true] else v) w := by
  obtain ⟨es, clock, hb, _, hk, _, h1, h2⟩ := h
  rcases K.find w hkey es.toList hk with ⟨hf, hne⟩ | ⟨j, e0, hf, hj, he⟩
  · have : f key = none := by
      cases hfk : f key with
      | none => rfl
      | some v =>
        obtain ⟨e, hm, he, _⟩ := h2 key v hfk
        exact absurd he (hne e hm)
    rw [this]
    simp [Instr.lookup, run_underlying ht, MapKept.run_getObj_map hb, K.check w _ hkey, hf, hz, Result.andThen]
  · have hm : e0 ∈ es.toList := List.mem_of_getElem? hj
    rw [← he, h1 e0 hm]
    rw [he]
    cases c <;> simp [Instr.lookup, run_underlying ht, MapKept.run_getObj_map hb, K.check w _ hkey, hf, Result.andThen]
theorem MapIs.set (h : MapIs P k w b n f) (K : Keyed P k) {t e : TypeId} (ht : P.underlying t = some (.map k e)) {key val : Value} {kl : Lit} (hkey : keyOf P k key = some kl) {f' : Value → Option Value} (g1 : f' key = some val) (g2 : ∀ x, x ≠ key → f' x = f x) :
    ∃ w', (Instr.mapUpdate t (.map (some b)) key val).run P w = .ok () w' ∧ MapIs P k w' b (n + 1) f' ∧ w.grownBy w' (some b) := by
  obtain ⟨es, clock, hb, hn, hk, hd, h1, h2⟩ := h
  have hgrow : ∀ o, w.grownBy (setBlock w b o) (some b) := fun o => ⟨rfl, rfl, rfl, by simp [setBlock], fun i _ hi => heap_setBlock_other hb _ (fun e => hi (by rw [e]))⟩
  rcases K.find w hkey es.toList hk with ⟨hf, hne⟩ | ⟨j, e0, hf, hj, he⟩
  · refine ⟨setBlock w b (.map (es.push ⟨key, val, clock⟩) (clock + 1)), ?_, ⟨es.push ⟨key, val, clock⟩, clock + 1, heap_setBlock_same hb _, by simp; omega, ?_, ?_, ?_, ?_⟩, hgrow _⟩
    · simp [Instr.mapUpdate, run_underlying ht, MapKept.run_getObj_map hb, K.check w false hkey, hf, MapKept.run_setObj_map _ hb, Result.andThen, setBlock]
    · intro x hx
      simp only [Array.toList_push, List.mem_append, List.mem_singleton] at hx
      rcases hx with hx | rfl
      · exact hk x hx
      · exact ⟨kl, hkey⟩
    · simp only [Array.toList_push]
      rw [List.pairwise_append]
      refine ⟨hd, by simp, fun x hx y hy => ?_⟩
      rw [List.mem_singleton] at hy
      subst hy
      exact hne x hx
    · intro x hx
      simp only [Array.toList_push, List.mem_append, List.mem_singleton] at hx
      rcases hx with hx | rfl
      · rw [g2 _ (hne x hx)]; exact h1 x hx
      · exact g1
    · intro x v hx
      simp only [Array.toList_push, List.mem_append, List.mem_singleton]
      by_cases hxk : x = key
      · subst hxk
        rw [g1] at hx
        exact ⟨⟨x, val, clock⟩, .inr rfl, rfl, Option.some.inj hx⟩
      · rw [g2 x hxk] at hx
        obtain ⟨e, hm, h3⟩ := h2 x v hx
        exact ⟨e, .inl hm, h3⟩
  · have hj' : es[j]? = some e0 := by simpa using hj
    have hjl : j < es.toList.length := (List.getElem?_eq_some_iff.1 hj).1
    have hlist : (es.modify j (fun e' => { e' with key := key, val := val })).toList = es.toList.set j { e0 with key := key, val := val } := by rw [Array.toList_modify, modify_eq_set _ _ _ _ hj]
    have hstay : Sem.run P (Instr.keyThatStays (((es[j]?).map (·.key)).getD key) key) w = .ok key w := by
      rw [hj']
      simp only [Option.map_some, Option.getD_some, he]
      exact K.stays w hkey
    have hother : ∀ i x, es.toList[i]? = some x → i ≠ j → x.key ≠ key := by
      intro i x hx hij e1
      have hil := (List.getElem?_eq_some_iff.1 hx).1
      rw [List.getElem?_eq_getElem hil] at hx
      rw [List.getElem?_eq_getElem hjl] at hj
      have hx' := Option.some.inj hx
      have hj'' := Option.some.inj hj
      rcases Nat.lt_or_gt_of_ne hij with h | h
      · exact (List.pairwise_iff_getElem.1 hd i j hil hjl h) (by rw [hx', hj'', e1, he])
      · exact (List.pairwise_iff_getElem.1 hd j i hjl hil h) (by rw [hx', hj'', e1, he])
    have hmem : ∀ x, x ∈ es.toList.set j { e0 with key := key, val := val } → x = { e0 with key := key, val := val } ∨ (x ∈ es.toList ∧ x.key ≠ key) := by
      intro x hx
      obtain ⟨i, hi⟩ := List.mem_iff_getElem?.1 hx
      rw [List.getElem?_set] at hi
      split at hi
      · left
        first
          | exact (Option.some.inj hi).symm
          | (split at hi
             · exact (Option.some.inj hi).symm
             · cases hi)
      · rename_i hij
        exact .inr ⟨List.mem_of_getElem? hi, hother i x hi (Ne.symm hij)⟩
    refine ⟨setBlock w b (.map (es.modify j (fun e' => { e' with key := key, val := val })) clock), ?_, ⟨es.modify j (fun e' => { e' with key := key, val := val }), clock, heap_setBlock_same hb _, by simp; omega, ?_, ?_, ?_, ?_⟩, hgrow _⟩
    · simp [Instr.mapUpdate, run_underlying ht, MapKept.run_getObj_map hb, K.check w false hkey, hf, hstay, MapKept.run_setObj_map _ hb, Result.andThen, setBlock]
    · intro x hx
      rw [hlist] at hx
      rcases hmem x hx with rfl | ⟨hx, _⟩
      · exact ⟨kl, hkey⟩
      · exact hk x hx
    · rw [hlist]
      have hset : (es.toList.set j { e0 with key := key, val := val }).map (·.key) = es.toList.map (·.key) := by
        rw [List.map_set]
        apply List.ext_getElem?
        intro i
        rw [List.getElem?_set]
        split
        · rename_i hij
          subst hij
          rw [if_pos (by simpa using hjl), List.getElem?_map, hj]
          simp [he]
        · rfl
      have h3 : (es.toList.map (·.key)).Pairwise (· ≠ ·) := List.pairwise_map.2 hd
      rw [← hset] at h3
      exact List.pairwise_map.1 h3
    · intro x hx
      rw [hlist] at hx
      rcases hmem x hx with rfl | ⟨hx, hne⟩
      · exact g1
      · rw [g2 _ hne]; exact h1 x hx
    · intro x v hx
      rw [hlist]
      by_cases hxk : x = key
      · subst hxk
        rw [g1] at hx
        refine ⟨{ e0 with key := x, val := val }, List.mem_iff_getElem?.2 ⟨j, by rw [List.getElem?_set, if_pos rfl, if_pos hjl]⟩, rfl, Option.some.inj hx⟩
      · rw [g2 x hxk] at hx
        obtain ⟨e, hm, h3, h4⟩ := h2 x v hx
        obtain ⟨i, hi⟩ := List.mem_iff_getElem?.1 hm
        refine ⟨e, List.mem_iff_getElem?.2 ⟨i, ?_⟩, h3, h4⟩
        rw [List.getElem?_set, if_neg, hi]
        rintro rfl
        rw [hj] at hi
        have := Option.some.inj hi
        subst this
        exact hxk (h3.symm.trans he)
theorem wpList_mapset {ops : Array Oper} {rest : List Oper} {o : Oper} {a : Act} {Q : Exit → Act → World → Prop} (hg : o.guard = none) (m x v : Operand) (t : TypeId) (hop : o.op = Op.mapUpdate t m x v ∨ o.op = Op.insert t m x v)
    {e : TypeId} (K : Keyed P k) (ht : P.underlying t = some (.map k e)) (hm : a.eval m = .map (some b)) (h : MapIs P k w b n f) (key val : Value) (kl : Lit) (hx : a.eval x = key) (hv : a.eval v = val) (hkey : keyOf P k key = some kl)
    (f' : Value → Option Value) (g1 : f' key = some val) (g2 : ∀ x, x ≠ key → f' x = f x) (hK : ∀ w', MapIs P k w' b (n + 1) f' → w.grownBy w' (some b) → wpList P ops Q rest (a.put o.dst undef) w') :
    wpList P ops Q (o :: rest) a w := by
  refine wpList_plain hg fun K' hK' => ?_
  obtain ⟨w', hrun, r1, r2⟩ := h.set K ht hkey g1 g2
  unfold Oper.wp
  rcases hop with hop | hop
  · simp [execOp, hop, hm, hx, hv, hrun, Result.andThen]
    exact hK' _ _ (hK w' r1 r2)
  · simp [execOp, hop, hm, hx, hv, hrun, Result.andThen]
    exact hK' _ _ (hK w' r1 r2)
end
end Go.Proofs.YtnkelhmjkmeilaaGreatDoor
end
section
namespace Go.Proofs.YtnkelhmjkmeilaaGreatDoor
open Go.RowKit Go.Maps Go.WideMaps
def tabF (tab : List (List UInt8 × Int)) (v : Value) : Option Value :=
  match v with
  | .string s => (tab.find? fun p => p.1 == s.data.toList).map fun p => .int .i32 p.2
  | _ => none
theorem tabF_nil : tabF [] = fun _ => none := by
  funext v
  cases v <;> rfl
theorem tabF_new (tab : List (List UInt8 × Int)) (s : ByteArray) (x : Int) (h : (tab.find? fun p => p.1 == s.data.toList) = none) : tabF (tab ++ [(s.data.toList, x)]) (.string s) = some (.int .i32 x) := by
  simp only [tabF, List.find?_append, h]
  simp
theorem tabF_old (tab : List (List UInt8 × Int)) (s : ByteArray) (x : Int) (v : Value) (h : v ≠ .string s) : tabF (tab ++ [(s.data.toList, x)]) v = tabF tab v := by
  cases v with
  | string t =>
    have : s.data.toList ≠ t.data.toList := by
      intro e
      apply h
      have := (IsStr.of s).eq (IsStr.of t) e
      rw [this]
    simp only [tabF, List.find?_append]
    have e2 : ([(s.data.toList, x)].find? fun p => p.1 == t.data.toList) = none := by
      rw [List.find?_cons]
      have : (s.data.toList == t.data.toList) = false := by rw [beq_eq_false_iff_ne]; exact this
      rw [this]; rfl
    rw [e2]
    simp
  | _ => rfl
theorem below_map {b : Nat} {a w w' : World} (h : Below a.heap.size a w) (hg : w.grownBy w' (some b)) (hB : a.heap.size ≤ b) : Below a.heap.size a w' :=
  h.trans ⟨hg.os, hg.tape, hg.output, hg.size, fun k hk => hg.block k (by have := h.size; omega) (fun e => by injection e with e; omega)⟩
theorem keyS : Keyed Tryz.prog 9 := string_keyed Tryz.underlying9
theorem wpList_name {P : Program} {w : World} {ops : Array Oper} {rest : List Oper} {o : Oper} {a : Act} {Q : Exit → Act → World → Prop} {b n k e : Nat} {tab : List (List UInt8 × Int)} (hg : o.guard = none) (m x v : Operand) (t : TypeId) (hop : o.op = Op.insert t m x v)
    (K : Keyed P k) (ht : P.underlying t = some (.map k e)) (hk : P.underlying k = some .string) (hm : a.eval m = .map (some b)) (h : MapIs P k w b n (tabF tab)) (s : ByteArray) (c : Int) (hx : a.eval x = .string s) (hv : a.eval v = .int .i32 c)
    (hs : s.size ≤ maxLen) (hnew : (tab.find? fun p => p.1 == s.data.toList) = none)
    (hK : ∀ w', MapIs P k w' b (n + 1) (tabF (tab ++ [(s.data.toList, c)])) → w.grownBy w' (some b) → wpList P ops Q rest (a.put o.dst undef) w') : wpList P ops Q (o :: rest) a w :=
  wpList_mapset hg m x v t (.inr hop) K ht hm h _ _ (.string s.data.toList) hx hv (keyOf_string_mk hk hs) _ (tabF_new tab s c hnew) (fun y hy => tabF_old tab s c y hy) hK
set_option maxHeartbeats 2000000 in
set_option maxRecDepth 100000 in
theorem names_any (w : World) : Calls Tryz.prog 343 #[] w fun e w' => ∃ b, e = .returned (.map (some b)) ∧ MapIs Tryz.prog 9 w' b 15 (tabF nameTab) ∧ Below w.heap.size w w' := by
  have hmm := @run_makeMap Tryz.prog
  go_enter Tryz.func343, Tryz.ntmps343
  have m0 : MapIs Tryz.prog 9 (w.alloc (.map #[] 0)) w.heap.size 0 (tabF []) := tabF_nil ▸ MapIs.made _ _ w
  have b0 : Below w.heap.size w (w.alloc (.map #[] 0)) := (Below.refl _ w).alloc (Nat.le_refl _) _
  go_wp2_with (refine wpList_name rfl _ _ _ _ rfl keyS Tryz.underlying460 Tryz.underlying9 rfl m0 _ _ rfl rfl (by decide) rfl ?_; intro w1 m1 g1; replace b0 := below_map b0 g1 (Nat.le_refl _); replace m0 := m1; clear g1 m1)
  go_ret
  exact ⟨_, rfl, m0, b0⟩
theorem Name_any {w : World} {s : ByteArray} {l : List UInt8} (hs : IsStr s l) (hl : l.length ≤ 1000000) :
    Calls Tryz.prog 334 #[.string s] w fun e w' => e = .returned (.tuple #[.int .i32 ((nameOf l).getD 0), .bool (nameOf l).isSome]) ∧ Below w.heap.size w w' := by
  have hsz := hs.size
  have hss : s.size ≤ maxLen := by unfold maxLen; omega
  have hkey : keyOf Tryz.prog 9 (.string s) = some (.string s.data.toList) := keyOf_string_mk Tryz.underlying9 hss
  have hz : ∀ w, (zeroValue 21).run Tryz.prog w = .ok (.int .i32 0) w := fun w => by kernel_rfl
  have htab : tabF nameTab (.string s) = (nameOf l).map (Value.int .i32) := by
    simp only [tabF, nameOf, hs.out, Option.map_map]
    rfl
  have HK := Lib.hid hkey
  have HT := Lib.hid htab
  clear hsz hss hkey htab
  go_enter Tryz.func334, Tryz.ntmps334
  go_wp2_with fail
  refine (names_any w).mono ?_
  rintro e W1 ⟨b, rfl, m1, b1⟩
  have hlook := m1.look keyS Tryz.underlying460 (hz _) HK.out true
  rw [HT.out] at hlook
  cases hn : nameOf l with
  | none =>
    rw [hn] at hlook
    simp only [Option.map_none, if_true] at hlook
    go_wp2
    go_ret2
    exact ⟨by rw [hn]; rfl, b1⟩
  | some r =>
    rw [hn] at hlook
    simp only [Option.map_some, if_true] at hlook
    go_wp2
    go_ret2
    exact ⟨by rw [hn]; rfl, b1⟩
end Go.Proofs.YtnkelhmjkmeilaaGreatDoor
end
section
namespace Go.Proofs.YtnkelhmjkmeilaaGreatDoor
open Go.RowKit
set_option maxHeartbeats 1000000 in
theorem character_any (w : World) (n : Int) (h0 : 0 ≤ n) (hb : n ≤ 1000000000) :
    Calls Tryz.prog 341 #[.int .i64 n] w fun e w' => e = .returned (.int .i32 (charOf n)) ∧ Below w.heap.size w w' := by
  by_cases e0 : n = 0
  · subst e0
    go_enter Tryz.func341, Tryz.ntmps341
    go_wp2
    go_ret
    exact ⟨rfl, Below.refl _ _⟩
  · have b0 : (n == 0) = false := by rw [beq_eq_false_iff_ne]; exact e0
    by_cases e1 : n = 13
    · subst e1
      go_enter Tryz.func341, Tryz.ntmps341
      go_wp2
      go_ret
      exact ⟨rfl, Below.refl _ _⟩
    · have b1 : (n == 13) = false := by rw [beq_eq_false_iff_ne]; exact e1
      by_cases e2 : 55296 ≤ n
      · by_cases e3 : n ≤ 57343
        · have H := Lib.hid (show charOf n = 65533 by unfold charOf; rw [if_pos (by omega)])
          clear e0 e1
          go_enter Tryz.func341, Tryz.ntmps341
          go_wp2
          go_ret
          exact ⟨by rw [H.out]; rfl, Below.refl _ _⟩
        · by_cases e4 : n > 1114111
          · have H := Lib.hid (show charOf n = 65533 by unfold charOf; rw [if_pos (by omega)])
            clear e0 e1
            go_enter Tryz.func341, Tryz.ntmps341
            go_wp2
            go_ret
            exact ⟨by rw [H.out]; rfl, Below.refl _ _⟩
          · have H := Lib.hid (show charOf n = n by unfold charOf; rw [if_neg (by omega)])
            clear e0 e1
            go_enter Tryz.func341, Tryz.ntmps341
            go_wp2
            go_ret
            exact ⟨by rw [H.out]; rfl, Below.refl _ _⟩
      · have H := Lib.hid (show charOf n = n by unfold charOf; rw [if_neg (by omega)])
        have e4 : ¬ n > 1114111 := by omega
        clear e0 e1
        go_enter Tryz.func341, Tryz.ntmps341
        go_wp2
        go_ret
        exact ⟨by rw [H.out]; rfl, Below.refl _ _⟩
set_option maxHeartbeats 2000000 in
theorem digit_any (w : World) (c base : Int) (h0 : 0 ≤ c) (hb : c ≤ 1114111) (hbase : base = 10 ∨ base = 16) :
    Calls Tryz.prog 342 #[.int .i32 c, .int .i64 base] w fun e w' => e = .returned (.int .i64 (digitOf c base)) ∧ Below w.heap.size w w' := by
  by_cases a0 : 48 ≤ c
  all_goals by_cases a1 : c ≤ 57
  all_goals by_cases a2 : 97 ≤ c
  all_goals by_cases a3 : c ≤ 102
  all_goals by_cases a4 : 65 ≤ c
  all_goals by_cases a5 : c ≤ 70
  all_goals try (exfalso; omega)
  all_goals rcases hbase with rfl | rfl
  all_goals (generalize hd : digitOf c _ = d; unfold digitOf at hd; simp only [*, and_true, and_false, if_true, if_false] at hd)
  all_goals (go_enter Tryz.func342, Tryz.ntmps342; have HD := Lib.hid hd; clear hd; go_wp2; go_ret; exact ⟨by rw [← HD.out]; first | rfl | (congr 2; omega), Below.refl _ _⟩)
end Go.Proofs.YtnkelhmjkmeilaaGreatDoor
end
