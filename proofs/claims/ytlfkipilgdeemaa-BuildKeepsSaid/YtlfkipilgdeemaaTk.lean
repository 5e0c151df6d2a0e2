/- Tokens in memory: four cells each; rows of them that a call makes itself. -/
import Derived.Test.YtlfkipilgdeemaaK1
import Derived.Test.YtlfkipilgdeemaaOw
namespace Go.Proofs.Ytlfkipilgdeemaa
open Go.RowKit

/-- a token's cells; its attributes lie in blocks of which S holds -/
def TIs (w : World) (S : Nat → Prop) (t : Tk) (cs : List Value) : Prop := ∃ A c, cs = [.int .i64 t.kind, sv t.name, .slice A t.attrs.length c, sv t.text] ∧ t.attrs.length ≤ c ∧ RdP w S 2 A t.attrs.length (atrCells t.attrs)
def TsIs (w : World) (S : Nat → Prop) : List Tk → List Value → Prop
  | [], cs => cs = []
  | t :: l, cs => ∃ a b, cs = a ++ b ∧ TIs w S t a ∧ TsIs w S l b
section
variable {w w' : World} {S S' : Nat → Prop}
theorem TIs.keep (hk : ∀ p : Addr, S p.block → w'.cell? p = w.cell? p) {t : Tk} {cs : List Value} (h : TIs w S t cs) : TIs w' S t cs := by
  obtain ⟨A, c, h1, h2, h3⟩ := h
  exact ⟨A, c, h1, h2, h3.keep hk⟩
theorem TIs.more (hS : ∀ b, S b → S' b) {t : Tk} {cs : List Value} (h : TIs w S t cs) : TIs w S' t cs := by
  obtain ⟨A, c, h1, h2, h3⟩ := h
  exact ⟨A, c, h1, h2, h3.more hS⟩
theorem TIs.four {t : Tk} {cs : List Value} (h : TIs w S t cs) : cs.length = 4 := by
  obtain ⟨A, c, rfl, _⟩ := h
  rfl
theorem TIs.one {t : Tk} {cs : List Value} (h : TIs w S t cs) : ∀ u ∈ cs, u.oneCell' = true := by
  obtain ⟨A, c, rfl, _⟩ := h
  intro u hu
  simp at hu
  rcases hu with rfl | rfl | rfl | rfl <;> rfl
theorem TsIs.keep (hk : ∀ p : Addr, S p.block → w'.cell? p = w.cell? p) {l : List Tk} {cs : List Value} (h : TsIs w S l cs) : TsIs w' S l cs := by
  induction l generalizing cs with
  | nil => exact h
  | cons t l ih =>
    obtain ⟨a, b, e, h1, h2⟩ := h
    exact ⟨a, b, e, h1.keep hk, ih h2⟩
theorem TsIs.more (hS : ∀ b, S b → S' b) {l : List Tk} {cs : List Value} (h : TsIs w S l cs) : TsIs w S' l cs := by
  induction l generalizing cs with
  | nil => exact h
  | cons t l ih =>
    obtain ⟨a, b, e, h1, h2⟩ := h
    exact ⟨a, b, e, h1.more hS, ih h2⟩
theorem TsIs.len {l : List Tk} {cs : List Value} (h : TsIs w S l cs) : cs.length = l.length * 4 := by
  induction l generalizing cs with
  | nil => have h : cs = [] := h; subst h; rfl
  | cons t l ih =>
    obtain ⟨a, b, rfl, h1, h2⟩ := h
    rw [List.length_append, h1.four, ih h2, List.length_cons]
    omega
theorem TsIs.one {l : List Tk} {cs : List Value} (h : TsIs w S l cs) : ∀ u ∈ cs, u.oneCell' = true := by
  induction l generalizing cs with
  | nil => have h : cs = [] := h; subst h; intro u hu; cases hu
  | cons t l ih =>
    obtain ⟨a, b, rfl, h1, h2⟩ := h
    intro u hu
    rcases List.mem_append.1 hu with hu | hu
    · exact h1.one u hu
    · exact ih h2 u hu
theorem TsIs.append {l m : List Tk} {xs ys : List Value} (h : TsIs w S l xs) (h' : TsIs w S m ys) : TsIs w S (l ++ m) (xs ++ ys) := by
  induction l generalizing xs with
  | nil => have h : xs = [] := h; subst h; exact h'
  | cons t l ih =>
    obtain ⟨a, b, rfl, h1, h2⟩ := h
    rw [List.cons_append, List.append_assoc]
    exact ⟨a, b ++ ys, rfl, h1, ih h2⟩
theorem TsIs.single {t : Tk} {cs : List Value} (h : TIs w S t cs) : TsIs w S [t] cs := ⟨cs, [], by simp, h, rfl⟩
theorem TsIs.nil (w : World) (S : Nat → Prop) : TsIs w S [] [] := rfl
/-- the token at k, among the cells -/
theorem TsIs.at_ {l : List Tk} {cs : List Value} (h : TsIs w S l cs) {k : Nat} (hk : k < l.length) : ∃ a, TIs w S l[k] a ∧ ∀ j, j < 4 → cs[k * 4 + j]? = a[j]? := by
  induction l generalizing cs k with
  | nil => simp at hk
  | cons n l ih =>
    obtain ⟨a, b, rfl, h1, h2⟩ := h
    have h5 := h1.four
    match k with
    | 0 =>
      refine ⟨a, h1, fun j hj => ?_⟩
      rw [List.getElem?_append_left (by omega), Nat.zero_mul, Nat.zero_add]
    | k + 1 =>
      obtain ⟨a', h3, h4⟩ := ih h2 (k := k) (by simpa using hk)
      refine ⟨a', h3, fun j hj => ?_⟩
      rw [List.getElem?_append_right (by omega), ← h4 j hj]
      congr 1
      omega
end
/-- THE SLICE VALUE '.slice A n c' READS AS THE TOKENS l, in blocks of which S holds -/
def ToksP (w : World) (S : Nat → Prop) (A : Option Addr) (n : Nat) (l : List Tk) : Prop := ∃ xs, RdP w S 4 A n xs ∧ TsIs w S l xs
def Toks (w : World) (B : Nat) (A : Option Addr) (n : Nat) (l : List Tk) : Prop := ToksP w (fun b => b < B) A n l
section
variable {w w' : World} {S S' : Nat → Prop} {A : Option Addr} {n : Nat} {l : List Tk}
theorem ToksP.keep (h : ToksP w S A n l) (hk : ∀ p : Addr, S p.block → w'.cell? p = w.cell? p) : ToksP w' S A n l := by
  obtain ⟨xs, h1, h2⟩ := h
  exact ⟨xs, h1.keep hk, h2.keep hk⟩
theorem ToksP.more (h : ToksP w S A n l) (hS : ∀ b, S b → S' b) : ToksP w S' A n l := by
  obtain ⟨xs, h1, h2⟩ := h
  exact ⟨xs, h1.more hS, h2.more hS⟩
theorem ToksP.len (h : ToksP w S A n l) : l.length = n := by
  obtain ⟨xs, h1, h2⟩ := h
  have := h1.1
  rw [h2.len] at this
  omega
theorem ToksP.lt {B : Nat} (h : ToksP w S A n l) (hS : ∀ b, S b → b < B) : Toks w B A n l := ToksP.more h hS
theorem Toks.below {B : Nat} (h : Toks w B A n l) (hb : Below B w w') : Toks w' B A n l := ToksP.keep h fun _ hp => hb.cell hp
theorem Toks.on (h : Toks w w.heap.size A n l) (hb : Below w.heap.size w w') : Toks w' w'.heap.size A n l := ToksP.more (h.below hb) (fun _ hp => Nat.lt_of_lt_of_le hp hb.size)
end
theorem push_toks {lo : Nat} {w w' : World} {v v' : Value} {l : List Tk} {xs : List Value} (h : TsIs w (Apart lo w v) l xs) (hg : w.grownBy w' v.ownBlock)
    (hv : ∀ g, v'.ownBlock = some g → v.ownBlock = some g ∨ w.heap.size ≤ g) : TsIs w' (Apart lo w' v') l xs := by
  refine TsIs.more (S := Apart lo w v) ?_ (TsIs.keep ?_ h)
  · rintro b ⟨h1, h2, h3⟩
    refine ⟨h1, Nat.lt_of_lt_of_le h2 hg.size, fun e => ?_⟩
    rcases hv b e with h4 | h4
    · exact h3 h4
    · omega
  · rintro p ⟨h1, h2, h3⟩
    exact World.cell?_of_block (hg.block p.block h2 (fun e => h3 e.symm))
theorem below_toks {lo : Nat} {w w' : World} {v : Value} {l : List Tk} {xs : List Value} (h : TsIs w (Apart lo w v) l xs) (hb : Below w.heap.size w w') : TsIs w' (Apart lo w' v) l xs := by
  refine TsIs.more (S := Apart lo w v) ?_ (TsIs.keep ?_ h)
  · rintro b ⟨h1, h2, h3⟩
    exact ⟨h1, Nat.lt_of_lt_of_le h2 hb.size, h3⟩
  · rintro p ⟨h1, h2, h3⟩
    exact hb.cell h2
theorem toks_of_own {lo : Nat} {w : World} {A : Option Addr} {c n : Nat} {e : TypeId} {l : List Tk} {xs : List Value} (ho : w.ownsRow lo e 4 (.slice A n c) n xs) (h : TsIs w (Apart lo w (.slice A n c)) l xs) :
    ToksP w (fun b => lo ≤ b ∧ b < w.heap.size) A n l :=
  ⟨xs, RdP.of_own ho, TsIs.more (fun _ hb => ⟨hb.1, hb.2.1⟩) h⟩
theorem infoTk : (Try.prog.info? 29).map (fun i => (i.zero, i.size, i.bytes)) = some (some (.agg #[.int .i64 0, .string ⟨#[]⟩, .slice none 0 0, .string ⟨#[]⟩]), 4, 64) := by kernel_rfl
theorem rowTk : Row Try.prog 22 29 4 64 := by
  obtain ⟨i, hi, hz, h1, h2⟩ := info_parts infoTk
  exact ⟨Try.underlying22, ⟨i, _, hi, hz, h1, h2, rfl⟩, by decide⟩
end Go.Proofs.Ytlfkipilgdeemaa
