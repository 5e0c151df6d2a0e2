/- Tokens in memory: four cells each; rows of them that a call makes itself. A Builder in memory: its block, its rows of pointers, its map, its records; each block is known by what it is for. -/
import Derived.Test.YtnkelhmjkmeilaaGreatDoorT09
import Derived.Test.YtnkelhmjkmeilaaGreatDoorT08
import Derived.Test.YtnkelhmjkmeilaaGreatDoorT02
section
namespace Go.Proofs.YtnkelhmjkmeilaaGreatDoor.K
open Go.RowKit
def TIs (w : World) (S : Nat → Prop) (t : Tk) (cs : List Value) : Prop := ∃ A c, cs = [.int .i64 t.kind, sv t.name, .slice A t.attrs.length c, sv t.text] ∧ t.attrs.length ≤ c ∧ RdP w S 2 A t.attrs.length (atrCells t.attrs)
def TsIs (w : World) (S : Nat → Prop) : List Tk → List Value → Prop
  | [], cs => cs = []
  | t :: l, cs => ∃ a b, cs = a ++ b ∧ TIs w S t a ∧ TsIs w S l b
section
variable {w w' : World} {S S' : Nat → Prop}
theorem TIs.keep (hk : ∀ p : Addr, S p.block → w'.cell? p = w.cell? p) {t : Tk} {cs : List Value} (h : TIs w S t cs) : TIs w' S t cs := by
  obtain ⟨A, c, h1, h2, h3⟩ := h
  exact ⟨A, c, h1, h2, h3.keep hk⟩
theorem TIs.more (hS : ∀ b, S b → S' b) {t : Tk} {cs : List Value} (h : TIs w S t cs) : TIs w S' t cs := by
  obtain ⟨A, c, h1, h2, h3⟩ := h
  exact ⟨A, c, h1, h2, h3.more hS⟩
theorem TIs.four {t : Tk} {cs : List Value} (h : TIs w S t cs) : cs.length = 4 := by
  obtain ⟨A, c, rfl, _⟩ := h
  rfl
theorem TIs.one {t : Tk} {cs : List Value} (h : TIs w S t cs) : ∀ u ∈ cs, u.oneCell' = true := by
  obtain ⟨A, c, rfl, _⟩ := h
  intro u hu
  simp at hu
  rcases hu with rfl | rfl | rfl | rfl <;> rfl
theorem TsIs.keep (hk : ∀ p : Addr, S p.block → w'.cell? p = w.cell? p) {l : List Tk} {cs : List Value} (h : TsIs w S l cs) : TsIs w' S l cs := by
  induction l generalizing cs with
  | nil => exact h
  | cons t l ih =>
    obtain ⟨a, b, e, h1, h2⟩ := h
    exact ⟨a, b, e, h1.keep hk, ih h2⟩
theorem TsIs.more (hS : ∀ b, S b → S' b) {l : List Tk} {cs : List Value} (h : TsIs w S l cs) : TsIs w S' l cs := by
  induction l generalizing cs with
  | nil => exact h
  | cons t l ih =>
    obtain ⟨a, b, e, h1, h2⟩ := h
    exact ⟨a, b, e, h1.more hS, ih h2⟩
theorem TsIs.len {l : List Tk} {cs : List Value} (h : TsIs w S l cs) : cs.length = l.length * 4 := by
  induction l generalizing cs with
  | nil => have h : cs = [] := h; subst h; rfl
  | cons t l ih =>
    obtain ⟨a, b, rfl, h1, h2⟩ := h
    rw [List.length_append, h1.four, ih h2, List.length_cons]
    omega
theorem TsIs.one {l : List Tk} {cs : List Value} (h : TsIs w S l cs) : ∀ u ∈ cs, u.oneCell' = true := by
  induction l generalizing cs with
  | nil => have h : cs = [] := h; subst h; intro u hu; cases hu
  | cons t l ih =>
    obtain ⟨a, b, rfl, h1, h2⟩ := h
    intro u hu
    rcases List.mem_append.1 hu with hu | hu
    · exact h1.one u hu
    · exact ih h2 u hu
theorem TsIs.append {l m : List Tk} {xs ys : List Value} (h : TsIs w S l xs) (h' : TsIs w S m ys) : TsIs w S (l ++ m) (xs ++ ys) := by
  induction l generalizing xs with
  | nil => have h : xs = [] := h; subst h; exact h'
  | cons t l ih =>
    obtain ⟨a, b, rfl, h1, h2⟩ := h
    rw [List.cons_append, List.append_assoc]
    exact ⟨a, b ++ ys, rfl, h1, ih h2⟩
theorem TsIs.single {t : Tk} {cs : List Value} (h : TIs w S t cs) : TsIs w S [t] cs := ⟨cs, [], by simp, h, rfl⟩
theorem TsIs.nil (w : World) (S : Nat → Prop) : TsIs w S [] [] := rfl
theorem TsIs.at_ {l : List Tk} {cs : List Value} (h : TsIs w S l cs) {k : Nat} (hk : k < l.length) : ∃ a, TIs w S l[k] a ∧ ∀ j, j < 4 → cs[k * 4 + j]? = a[j]? := by
  induction l generalizing cs k with
  | nil => simp at hk
  | cons n l ih =>
    obtain ⟨a, b, rfl, h1, h2⟩ := h
    have h5 := h1.four
    match k with
    | 0 =>
      refine ⟨a, h1, fun j hj => ?_⟩
      rw [List.getElem?_append_left (by omega), Nat.zero_mul, Nat.zero_add]
    | k + 1 =>
      obtain ⟨a', h3, h4⟩ := ih h2 (k := k) (by simpa using hk)
      refine ⟨a', h3, fun j hj => ?_⟩
      rw [List.getElem?_append_right (by omega), ← h4 j hj]
      congr 1
      omega
end
def ToksP (w : World) (S : Nat → Prop) (A : Option Addr) (n : Nat) (l : List Tk) : Prop := ∃ xs, RdP w S 4 A n xs ∧ TsIs w S l xs
def Toks (w : World) (B : Nat) (A : Option Addr) (n : Nat) (l : List Tk) : Prop := ToksP w (fun b => b < B) A n l
section
variable {w w' : World} {S S' : Nat → Prop} {A : Option Addr} {n : Nat} {l : List Tk}
theorem ToksP.keep (h : ToksP w S A n l) (hk : ∀ p : Addr, S p.block → w'.cell? p = w.cell? p) : ToksP w' S A n l := by
  obtain ⟨xs, h1, h2⟩ := h
  exact ⟨xs, h1.keep hk, h2.keep hk⟩
theorem ToksP.more (h : ToksP w S A n l) (hS : ∀ b, S b → S' b) : ToksP w S' A n l := by
  obtain ⟨xs, h1, h2⟩ := h
  exact ⟨xs, h1.more hS, h2.more hS⟩
theorem ToksP.len (h : ToksP w S A n l) : l.length = n := by
  obtain ⟨xs, h1, h2⟩ := h
  have := h1.1
  rw [h2.len] at this
  omega
theorem ToksP.lt {B : Nat} (h : ToksP w S A n l) (hS : ∀ b, S b → b < B) : Toks w B A n l := ToksP.more h hS
theorem Toks.below {B : Nat} (h : Toks w B A n l) (hb : Below B w w') : Toks w' B A n l := ToksP.keep h fun _ hp => hb.cell hp
theorem Toks.on (h : Toks w w.heap.size A n l) (hb : Below w.heap.size w w') : Toks w' w'.heap.size A n l := ToksP.more (h.below hb) (fun _ hp => Nat.lt_of_lt_of_le hp hb.size)
end
theorem push_toks {lo : Nat} {w w' : World} {v v' : Value} {l : List Tk} {xs : List Value} (h : TsIs w (Apart lo w v) l xs) (hg : w.grownBy w' v.ownBlock)
    (hv : ∀ g, v'.ownBlock = some g → v.ownBlock = some g ∨ w.heap.size ≤ g) : TsIs w' (Apart lo w' v') l xs := by
  refine TsIs.more (S := Apart lo w v) ?_ (TsIs.keep ?_ h)
  · rintro b ⟨h1, h2, h3⟩
    refine ⟨h1, Nat.lt_of_lt_of_le h2 hg.size, fun e => ?_⟩
    rcases hv b e with h4 | h4
    · exact h3 h4
    · omega
  · rintro p ⟨h1, h2, h3⟩
    exact World.cell?_of_block (hg.block p.block h2 (fun e => h3 e.symm))
theorem below_toks {lo : Nat} {w w' : World} {v : Value} {l : List Tk} {xs : List Value} (h : TsIs w (Apart lo w v) l xs) (hb : Below w.heap.size w w') : TsIs w' (Apart lo w' v) l xs := by
  refine TsIs.more (S := Apart lo w v) ?_ (TsIs.keep ?_ h)
  · rintro b ⟨h1, h2, h3⟩
    exact ⟨h1, Nat.lt_of_lt_of_le h2 hb.size, h3⟩
  · rintro p ⟨h1, h2, h3⟩
    exact hb.cell h2
theorem toks_of_own {lo : Nat} {w : World} {A : Option Addr} {c n : Nat} {e : TypeId} {l : List Tk} {xs : List Value} (ho : w.ownsRow lo e 4 (.slice A n c) n xs) (h : TsIs w (Apart lo w (.slice A n c)) l xs) :
    ToksP w (fun b => lo ≤ b ∧ b < w.heap.size) A n l :=
  ⟨xs, RdP.of_own ho, TsIs.more (fun _ hb => ⟨hb.1, hb.2.1⟩) h⟩
theorem infoTk : (Tryz.prog.info? 443).map (fun i => (i.zero, i.size, i.bytes)) = some (some (.agg #[.int .i64 0, .string ⟨#[]⟩, .slice none 0 0, .string ⟨#[]⟩]), 4, 64) := by kernel_rfl
theorem rowTk : Row Tryz.prog 439 443 4 64 := by
  obtain ⟨i, hi, hz, h1, h2⟩ := info_parts infoTk
  exact ⟨Tryz.underlying439, ⟨i, _, hi, hz, h1, h2, rfl⟩, by decide⟩
end Go.Proofs.YtnkelhmjkmeilaaGreatDoor.K
end
section
namespace Go.Proofs.YtnkelhmjkmeilaaGreatDoor.K
open Go.RowKit
inductive Role where
  | me | outs | opens | cnt
  | node (b : Nat) | ats (b : Nat) | txt (b : Nat) | kid (b : Nat)
def Role.of : Role → Option Nat
  | .node b => some b | .ats b => some b | .txt b => some b | .kid b => some b
  | _ => none
abbrev Own := Nat → Option Role
abbrev Own.Le (o o' : Own) : Prop := ∀ q r, o q = some r → o' q = some r
def Own.put (o : Own) (v : Value) (r : Role) : Own := fun q => match o q with | some x => some x | none => if v.ownBlock = some q then some r else none
theorem Own.put_le (o : Own) (v : Value) (r : Role) : Own.Le o (o.put v r) := fun q x h => by simp only [Own.put, h]
theorem Own.put_is {o : Own} {v : Value} {r : Role} {q : Nat} (hq : v.ownBlock = some q) (h : o q = none ∨ o q = some r) : o.put v r q = some r := by
  rcases h with h | h <;> simp [Own.put, h, hq]
theorem Own.put_inv {o : Own} {v : Value} {r x : Role} {q : Nat} (h : o.put v r q = some x) : o q = some x ∨ (v.ownBlock = some q ∧ x = r) := by
  unfold Own.put at h
  split at h
  · rename_i y hy; exact .inl (by rw [hy]; exact h)
  · split at h
    · rename_i hv; injection h with h; exact .inr ⟨hv, h.symm⟩
    · cases h
def ptrs (l : List Nat) : List Value := l.map fun b => .pointer (some ⟨b, 0, none⟩)
theorem ptrs_append (l m : List Nat) : ptrs (l ++ m) = ptrs l ++ ptrs m := by simp [ptrs]
theorem ptrs_at {l : List Nat} {k : Nat} (hk : k < l.length) : (ptrs l)[k]? = some (.pointer (some ⟨l[k], 0, none⟩)) := by simp [ptrs, hk]
structure RowR (w : World) (own : Own) (base : Nat) (e : TypeId) (r : Role) (v : Value) (n : Nat) (xs : List Value) : Prop where
  row : w.ownsRow base e 1 v n xs
  role : ∀ q, v.ownBlock = some q → own q = some r
theorem own_block {w w' : World} {base z n : Nat} {e : TypeId} {v : Value} {xs : List Value} (h : w.ownsRow base e z v n xs) (hk : ∀ q, v.ownBlock = some q → w'.heap[q]? = w.heap[q]?) : w'.ownsRow base e z v n xs := by
  refine ⟨h.1, ?_⟩
  rcases h.2 with h0 | ⟨g, cap, cur, rfl, hb, hh, rest⟩
  · exact .inl h0
  · exact .inr ⟨g, cap, cur, rfl, hb, (hk g rfl).trans hh, rest⟩
theorem RowR.keep {w w' : World} {own own' : Own} {base n : Nat} {e : TypeId} {r : Role} {v : Value} {xs : List Value} (h : RowR w own base e r v n xs) (hk : ∀ q, own q = some r → w'.heap[q]? = w.heap[q]?) (ho : Own.Le own own') : RowR w' own' base e r v n xs :=
  ⟨own_block h.row fun q hq => hk q (h.role q hq), fun q hq => ho q r (h.role q hq)⟩
structure RowB (w : World) (own : Own) (base : Nat) (r : Role) (v : Value) (l : List UInt8) : Prop where
  row : ByR w base v l
  role : ∀ q, v.ownBlock = some q → own q = some r
theorem RowB.keep {w w' : World} {own own' : Own} {base : Nat} {r : Role} {v : Value} {l : List UInt8} (h : RowB w own base r v l) (hk : ∀ q, own q = some r → w'.heap[q]? = w.heap[q]?) (ho : Own.Le own own') : RowB w' own' base r v l :=
  ⟨h.row.block fun q hq => hk q (h.role q hq), fun q hq => ho q r (h.role q hq)⟩
def Rc.grown (r : Rc) : List UInt8 := if r.kind = 2 then r.text else []
def Rc.fixed (r : Rc) : List UInt8 := if r.kind = 2 then [] else r.text
structure Rec (w : World) (own : Own) (base N : Nat) (b : Nat) (r : Rc) : Prop where
  role : own b = some (.node b)
  cells : ∃ A n c TV KV, w.heap[b]? = some (.cells #[.int .i64 r.kind, sv r.name, .slice A n c, sv r.fixed, .slice none 0 0, TV, KV] 482 (0, 0)) ∧ n ≤ c ∧
    RdP w (fun q => own q = some (.ats b)) 2 A n (atrCells r.attrs) ∧ RowB w own base (.txt b) TV r.grown ∧ RowR w own base 480 (.kid b) KV r.kids.length (ptrs r.kids)
  kids : r.kids.length ≤ N
  text : r.text.length ≤ 2000 * N
  attrs : r.attrs.length ≤ 1000
  nm : r.name.length ≤ 1000
theorem Rec.keep {w w' : World} {own own' : Own} {base N N' b : Nat} {r : Rc} (h : Rec w own base N b r) (hk : ∀ q x, own q = some x → x.of = some b → w'.heap[q]? = w.heap[q]?) (ho : Own.Le own own') (hN : N ≤ N') : Rec w' own' base N' b r := by
  obtain ⟨h1, ⟨A, n, c, TV, KV, h2, h3, h4, h5, h6⟩, h7, h8, h9, h10⟩ := h
  refine ⟨ho _ _ h1, ⟨A, n, c, TV, KV, (hk b _ h1 rfl).trans h2, h3, ?_, h5.keep (fun q hq => hk q _ hq rfl) ho, h6.keep (fun q hq => hk q _ hq rfl) ho⟩, Nat.le_trans h7 hN, Nat.le_trans h8 (Nat.mul_le_mul_left _ hN), h9, h10⟩
  exact (h4.keep (fun p hp => World.cell?_of_block (hk p.block _ hp rfl))).more (fun q hq => ho q _ hq)
structure MI (w : World) (own : Own) (base bb mm N : Nat) (g : Sto) (outs opens : List Nat) (f : Value → Option Value) : Prop where
  lt : ∀ q r, own q = some r → base ≤ q ∧ q < w.heap.size
  me : own bb = some .me
  cnt : own mm = some .cnt
  blk : ∃ OV PV, w.heap[bb]? = some (.cells #[OV, PV, .map (some mm)] 471 (0, 0)) ∧ RowR w own base 480 .outs OV outs.length (ptrs outs) ∧ RowR w own base 480 .opens PV opens.length (ptrs opens.reverse)
  map : ∃ n, MapIs Tryz.prog 9 w mm n f
  recs : ∀ b r, g b = some r → Rec w own base N b r
  fewO : outs.length ≤ N
  fewP : opens.length ≤ N
section
variable {w w' : World} {own own' : Own} {base bb mm N N' : Nat} {g g' : Sto} {outs outs' opens opens' : List Nat} {f f' : Value → Option Value}
theorem MI.keep (h : MI w own base bb mm N g outs opens f) (hs : w.heap.size ≤ w'.heap.size) (hk : ∀ q r, own q = some r → w'.heap[q]? = w.heap[q]?) : MI w' own base bb mm N g outs opens f := by
  obtain ⟨h1, h2, h3, ⟨OV, PV, h4, h5, h6⟩, ⟨n, h7⟩, h8, h9, h10⟩ := h
  exact ⟨fun q r hq => ⟨(h1 q r hq).1, Nat.lt_of_lt_of_le (h1 q r hq).2 hs⟩, h2, h3, ⟨OV, PV, (hk bb _ h2).trans h4, h5.keep (fun q hq => hk q _ hq) (fun _ _ hq => hq), h6.keep (fun q hq => hk q _ hq) (fun _ _ hq => hq)⟩,
    ⟨n, h7.block (hk mm _ h3)⟩, fun b r hb => (h8 b r hb).keep (fun q x hq _ => hk q x hq) (fun _ _ hq => hq) (Nat.le_refl _), h9, h10⟩
theorem MI.below {B : Nat} (h : MI w own base bb mm N g outs opens f) (hb : Below B w w') (hB : w.heap.size ≤ B) : MI w' own base bb mm N g outs opens f :=
  h.keep hb.size fun q r hq => hb.block q (by have := (h.lt q r hq).2; omega)
theorem MI.more (h : MI w own base bb mm N g outs opens f) (hN : N ≤ N') : MI w own base bb mm N' g outs opens f :=
  ⟨h.lt, h.me, h.cnt, h.blk, h.map, fun b r hb => (h.recs b r hb).keep (fun _ _ _ _ => rfl) (fun _ _ hq => hq) hN, Nat.le_trans h.fewO hN, Nat.le_trans h.fewP hN⟩
def Frm (own : Own) (w w' : World) : Prop := ∀ q, own q = none → q < w.heap.size → w'.heap[q]? = w.heap[q]?
theorem Frm.of_below (hb : Below w.heap.size w w') : Frm own w w' := fun q _ hq => hb.block q hq
theorem Frm.trans {w'' : World} (h : Frm own w w') (hs : w.heap.size ≤ w'.heap.size) (h' : Frm own w' w'') : Frm own w w'' := fun q hq hl => (h' q hq (by omega)).trans (h q hq hl)
theorem MI.new (h : MI w own base bb mm N g outs opens f) {b : Nat} {k : Int} {nm : List UInt8} {ats : List Atr} {tx : List UInt8} {A : Option Addr} {n c : Nat} {TV : Value} {e2 : TypeId}
    (hb : w.heap[b]? = some (.cells #[.int .i64 k, sv nm, .slice A n c, sv (Rc.fixed ⟨k, nm, ats, tx, []⟩), .slice none 0 0, TV, .slice none 0 0] 482 (0, 0)))
    (hB : base ≤ b) (h0 : own b = none) (hA : w.ownsRow base e2 2 (.slice A n c) n (atrCells ats)) (hA0 : ∀ q, (Value.slice A n c).ownBlock = some q → own q = none ∧ q ≠ b)
    (hT : ByR w base TV (Rc.grown ⟨k, nm, ats, tx, []⟩)) (hT0 : ∀ q, TV.ownBlock = some q → own q = none ∧ q ≠ b ∧ (Value.slice A n c).ownBlock ≠ some q)
    (ha : ats.length ≤ 1000) (ht : tx.length ≤ 2000 * N) (hnm : nm.length ≤ 1000) :
    ∃ own', Own.Le own own' ∧ MI w own' base bb mm N (g.set b ⟨k, nm, ats, tx, []⟩) outs opens f ∧ own' b = some (.node b) ∧ ∀ q x, own' q = some x → own q = some x ∨ q = b ∨ (Value.slice A n c).ownBlock = some q ∨ TV.ownBlock = some q := by
  have hbl := (Array.getElem?_eq_some_iff.1 hb).1
  have hnc : n ≤ c := by
    obtain ⟨A', c', hv, hc⟩ := own_shape hA
    injection hv with _ _ hv
    omega
  have hle : Own.Le own (((own.put (.slice (some ⟨b, 0, none⟩) 0 0) (.node b)).put (.slice A n c) (.ats b)).put TV (.txt b)) :=
    fun q r hq => Own.put_le _ _ _ q r (Own.put_le _ _ _ q r (Own.put_le _ _ _ q r hq))
  have hnode : (((own.put (.slice (some ⟨b, 0, none⟩) 0 0) (.node b)).put (.slice A n c) (.ats b)).put TV (.txt b)) b = some (.node b) :=
    Own.put_le _ _ _ b _ (Own.put_le _ _ _ b _ (Own.put_is (q := b) rfl (.inl h0)))
  have hats : ∀ q, (Value.slice A n c).ownBlock = some q → (((own.put (.slice (some ⟨b, 0, none⟩) 0 0) (.node b)).put (.slice A n c) (.ats b)).put TV (.txt b)) q = some (.ats b) := by
    intro q hq
    obtain ⟨h1, h2⟩ := hA0 q hq
    refine Own.put_le _ _ _ q _ (Own.put_is hq (.inl ?_))
    have h3 : ¬ b = q := fun e => h2 e.symm
    simp [Own.put, h1, Value.ownBlock, h3]
  have htxt : ∀ q, TV.ownBlock = some q → (((own.put (.slice (some ⟨b, 0, none⟩) 0 0) (.node b)).put (.slice A n c) (.ats b)).put TV (.txt b)) q = some (.txt b) := by
    intro q hq
    obtain ⟨h1, h2, h3⟩ := hT0 q hq
    refine Own.put_is hq (.inl ?_)
    have h4 : ¬ b = q := fun e => h2 e.symm
    have h5 : (own.put (.slice (some ⟨b, 0, none⟩) 0 0) (.node b)) q = none := by simp [Own.put, h1, Value.ownBlock, h4]
    unfold Own.put at h5 ⊢
    rw [h5]
    simp only [h3, if_false]
  have hinv : ∀ q x, (((own.put (.slice (some ⟨b, 0, none⟩) 0 0) (.node b)).put (.slice A n c) (.ats b)).put TV (.txt b)) q = some x → own q = some x ∨ q = b ∨ (Value.slice A n c).ownBlock = some q ∨ TV.ownBlock = some q := by
    intro q x hq
    rcases Own.put_inv hq with hq | ⟨hq, _⟩
    · rcases Own.put_inv hq with hq | ⟨hq, _⟩
      · rcases Own.put_inv hq with hq | ⟨hq, _⟩
        · exact .inl hq
        · exact .inr (.inl (by simpa [Value.ownBlock] using hq.symm))
      · exact .inr (.inr (.inl hq))
    · exact .inr (.inr (.inr hq))
  generalize (((own.put (.slice (some ⟨b, 0, none⟩) 0 0) (.node b)).put (.slice A n c) (.ats b)).put TV (.txt b)) = own' at *
  obtain ⟨h1, h2, h3, ⟨OV, PV, h4, h5, h6⟩, h7, h8, h9, h10⟩ := h
  refine ⟨own', hle, ⟨?_, hle _ _ h2, hle _ _ h3, ⟨OV, PV, h4, h5.keep (fun _ _ => rfl) hle, h6.keep (fun _ _ => rfl) hle⟩, h7, ?_, h9, h10⟩, hnode, hinv⟩
  · intro q x hq
    rcases hinv q x hq with hq | rfl | hq | hq
    · exact h1 q x hq
    · exact ⟨hB, hbl⟩
    · exact hA.lt q hq
    · exact hT.lt q hq
  · intro b' r hb'
    by_cases hbb : b' = b
    · subst hbb
      rw [Sto.set_same] at hb'
      injection hb' with hb'
      subst hb'
      refine ⟨hnode, ⟨A, n, c, TV, _, hb, hnc, ?_, ⟨hT, htxt⟩, ⟨World.ownsRow_nil _ _ _ _, fun q hq => by simp [Value.ownBlock] at hq⟩⟩, Nat.zero_le _, ht, ha, hnm⟩
      refine ⟨hA.1, fun hne => ?_⟩
      have hp : 0 < n := by
        rcases Nat.eq_zero_or_pos n with h0 | h0
        · have := hA.1; rw [h0, Nat.zero_mul] at this; exact absurd (List.eq_nil_of_length_eq_zero this) hne
        · exact h0
      obtain ⟨q, cap, hv, _, _⟩ := hA.form hp
      have hAq : A = some ⟨q, 0, none⟩ := by injection hv
      subst hAq
      exact ⟨_, rfl, hats q rfl, hA.cells (g := q) rfl⟩
    · rw [Sto.set_other _ _ hbb] at hb'
      exact (h8 b' r hb').keep (fun _ _ _ _ => rfl) hle (Nat.le_refl _)
def plAddr (bb : Nat) : List Nat → Addr
  | [] => ⟨bb, 0, none⟩
  | b :: _ => ⟨b, 6, none⟩
theorem _root_.Go.Proofs.YtnkelhmjkmeilaaGreatDoor.RdP.block {S S' : Nat → Prop} {z n : Nat} {A : Option Addr} {xs : List Value} (h : RdP w S z A n xs) (hk : ∀ q, S q → w'.heap[q]? = w.heap[q]?) (hS : ∀ q, S q → S' q) : RdP w' S' z A n xs :=
  (h.keep fun p hp => World.cell?_of_block (hk p.block hp)).more hS
theorem heap_setCell_other {p : Addr} {u : Value} {q : Nat} (h : q ≠ p.block) : (w.setCell p u).heap[q]? = w.heap[q]? := Below.heap_setCell w p u q h
theorem size_set {p : Addr} {u : Value} : (w.setCell p u).heap.size = w.heap.size := by simp [World.setCell]
theorem role_new (h : ∀ q r, own q = some r → base ≤ q ∧ q < w.heap.size) {V V' : Value} {r : Role} (hV : ∀ q, V.ownBlock = some q → own q = some r) (hat : ∀ q, V'.ownBlock = some q → V.ownBlock = some q ∨ w.heap.size ≤ q) :
    ∀ q, V'.ownBlock = some q → own.put V' r q = some r := by
  intro q hq
  refine Own.put_is hq ?_
  rcases hat q hq with h1 | h1
  · exact .inr (hV q h1)
  · refine .inl ?_
    cases ho : own q with
    | none => rfl
    | some x => have := (h q x ho).2; omega
theorem MI.place (h : MI w own base bb mm N g outs opens f) (hp : ∀ p bs, opens = p :: bs → ∃ r, g p = some r) :
    ∃ V, w.cell? (plAddr bb opens) = some V ∧ w.frozen? (plAddr bb opens) = false ∧ w.ownsRow base 480 1 V (plIds g outs opens).length (ptrs (plIds g outs opens)) ∧
      some (plAddr bb opens).block ≠ V.ownBlock ∧ (plIds g outs opens).length ≤ N ∧ (plAddr bb opens).block < w.heap.size ∧ base ≤ (plAddr bb opens).block ∧ (own (plAddr bb opens).block ≠ none ∧ ∀ q, V.ownBlock = some q → own q ≠ none) ∧
      ∀ w1 V' x, w.grownBy w1 V.ownBlock → w1.ownsRow base 480 1 V' ((plIds g outs opens).length + 1) (ptrs (plIds g outs opens) ++ [.pointer (some ⟨x, 0, none⟩)]) →
        (∀ q, V'.ownBlock = some q → V.ownBlock = some q ∨ w.heap.size ≤ q) →
        ∃ own', Own.Le own own' ∧ MI (w1.setCell (plAddr bb opens) V') own' base bb mm (N + 1) (addKid g opens x) (addOut outs opens x) opens f := by
  obtain ⟨h1, h2, h3, ⟨OV, PV, h4, h5, h6⟩, ⟨nm, h7⟩, h8, h9, h10⟩ := h
  have hadd : ∀ (l : List Nat) x, ptrs l ++ [.pointer (some ⟨x, 0, none⟩)] = ptrs (l ++ [x]) := fun l x => by simp [ptrs]
  cases opens with
  | nil =>
    simp only [plIds, plAddr, addKid, addOut]
    have hbb := (h1 bb _ h2).2
    have hne : some bb ≠ OV.ownBlock := fun e => by have := h5.role bb e.symm; rw [h2] at this; cases this
    refine ⟨OV, by rw [Lib.cell_of_heap h4]; rfl, Lib.frozen_of_heap h4 0, h5.row, hne, h9, hbb, (h1 bb _ h2).1, ⟨by rw [h2]; simp, fun q hq => by rw [h5.role q hq]; simp⟩, fun w1 V' x hg hV hat => ?_⟩
    have hle : Own.Le own (own.put V' .outs) := Own.put_le _ _ _
    have hne' : V'.ownBlock ≠ some bb := fun e => by
      rcases hat bb e with e | e
      · exact hne e.symm
      · omega
    have hsame : ∀ q r, own q = some r → r ≠ .outs → r ≠ .me → (w1.setCell ⟨bb, 0, none⟩ V').heap[q]? = w.heap[q]? := fun q r hq hr1 hr2 => by
      rw [heap_setCell_other (p := ⟨bb, 0, none⟩) (fun e => hr2 (by simp only [] at e; subst e; rw [h2] at hq; injection hq with hq; exact hq.symm))]
      exact hg.block q (h1 q r hq).2 (fun e => hr1 (by have := h5.role q e.symm; rw [hq] at this; injection this))
    have hb1 : w1.heap[bb]? = some (.cells #[OV, PV, .map (some mm)] 471 (0, 0)) := (hg.block bb hbb hne).trans h4
    refine ⟨own.put V' .outs, hle, ⟨?_, hle _ _ h2, hle _ _ h3, ⟨V', PV, by rw [heap_setCell_same w1 bb 0 _ _ _ hb1]; simp, ⟨?_, role_new h1 h5.role hat⟩, h6.keep (fun q hq => hsame q _ hq (by simp) (by simp)) hle⟩, ⟨nm, h7.block (hsame mm _ h3 (by simp) (by simp))⟩, ?_, ?_, Nat.le_succ_of_le h10⟩⟩
    · intro q r hq
      rw [size_set]
      rcases Own.put_inv hq with hq | ⟨hq, _⟩
      · exact ⟨(h1 q r hq).1, Nat.lt_of_lt_of_le (h1 q r hq).2 hg.size⟩
      · exact hV.lt q hq
    · have := ownsRow_setCell_other hV (a := ⟨bb, 0, none⟩) hne' V'
      rw [hadd] at this
      simpa using this
    · intro b r hb
      exact (h8 b r hb).keep (fun q x' hq hx => hsame q x' hq (fun e => by subst e; cases hx) (fun e => by subst e; cases hx)) hle (Nat.le_succ _)
    · simp only [List.length_append, List.length_cons, List.length_nil]; omega
  | cons p bs =>
    obtain ⟨r, hr⟩ := hp p bs rfl
    have hpl : plIds g outs (p :: bs) = r.kids := by simp only [plIds, hr, Option.map_some, Option.getD_some]
    rw [hpl]
    simp only [plAddr, addOut]
    obtain ⟨k1, ⟨A, n, c, TV, KV, k2, k3, k4, k5, k6⟩, k7, k8, k9, k10⟩ := h8 p r hr
    have hbb := (h1 p _ k1).2
    have hne : some p ≠ KV.ownBlock := fun e => by have := k6.role p e.symm; rw [k1] at this; cases this
    refine ⟨KV, by rw [Lib.cell_of_heap k2]; rfl, Lib.frozen_of_heap k2 6, k6.row, hne, k7, hbb, (h1 p _ k1).1, ⟨by rw [k1]; simp, fun q hq => by rw [k6.role q hq]; simp⟩, fun w1 V' x hg hV hat => ?_⟩
    have hle : Own.Le own (own.put V' (.kid p)) := Own.put_le _ _ _
    have hne' : V'.ownBlock ≠ some p := fun e => by
      rcases hat p e with e | e
      · exact hne e.symm
      · omega
    have hsame : ∀ q r, own q = some r → r ≠ .kid p → r ≠ .node p → (w1.setCell ⟨p, 6, none⟩ V').heap[q]? = w.heap[q]? := fun q r hq hr1 hr2 => by
      rw [heap_setCell_other (p := ⟨p, 6, none⟩) (fun e => hr2 (by simp only [] at e; subst e; rw [k1] at hq; injection hq with hq; exact hq.symm))]
      exact hg.block q (h1 q r hq).2 (fun e => hr1 (by have := k6.role q e.symm; rw [hq] at this; injection this))
    have hb1 := (hg.block p hbb hne).trans k2
    refine ⟨own.put V' (.kid p), hle, ⟨?_, hle _ _ h2, hle _ _ h3, ⟨OV, PV, (hsame bb _ h2 (by simp) (by simp)).trans h4, h5.keep (fun q hq => hsame q _ hq (by simp) (by simp)) hle, h6.keep (fun q hq => hsame q _ hq (by simp) (by simp)) hle⟩, ⟨nm, h7.block (hsame mm _ h3 (by simp) (by simp))⟩, ?_, Nat.le_succ_of_le h9, Nat.le_succ_of_le h10⟩⟩
    · intro q r' hq
      rw [size_set]
      rcases Own.put_inv hq with hq | ⟨hq, _⟩
      · exact ⟨(h1 q r' hq).1, Nat.lt_of_lt_of_le (h1 q r' hq).2 hg.size⟩
      · exact hV.lt q hq
    · intro b r' hb
      by_cases hbp : b = p
      · subst hbp
        simp only [addKid, if_pos, hr, Option.map_some, Option.some.injEq] at hb
        subst hb
        refine ⟨hle _ _ k1, ⟨A, n, c, TV, V', by rw [heap_setCell_same w1 b 6 _ _ _ hb1]; simp [Rc.fixed], k3, ?_, k5.keep (fun q hq => hsame q _ hq (by simp) (by simp)) hle, ⟨?_, role_new h1 k6.role hat⟩⟩, ?_, ?_, k9, k10⟩
        · exact k4.block (fun q hq => hsame q _ hq (by simp) (by simp)) (fun q hq => hle _ _ hq)
        · have := ownsRow_setCell_other hV (a := ⟨b, 6, none⟩) hne' V'
          rw [hadd] at this
          simpa using this
        · simp only [List.length_append, List.length_cons, List.length_nil]; omega
        · simp only []; omega
      · simp only [addKid, if_neg hbp] at hb
        exact (h8 b r' hb).keep (fun q x' hq hx => hsame q x' hq (fun e => by subst e; injection hx with hx; exact hbp hx.symm) (fun e => by subst e; injection hx with hx; exact hbp hx.symm)) hle (Nat.le_succ _)
theorem MI.pop {b : Nat} {bs : List Nat} (h : MI w own base bb mm N g outs (b :: bs) f) :
    ∃ A n c, w.cell? ⟨bb, 1, none⟩ = some (.slice (some ⟨A, 0, none⟩) (n + 1) c) ∧ n = bs.length ∧ n + 1 ≤ c ∧ c ≤ maxLen ∧ w.cell? ⟨A, n, none⟩ = some (.pointer (some ⟨b, 0, none⟩)) ∧ w.cell? ⟨bb, 2, none⟩ = some (.map (some mm)) ∧ w.frozen? ⟨bb, 1, none⟩ = false ∧
      MI (w.setCell ⟨bb, 1, none⟩ (.slice (some ⟨A, 0, none⟩) n c)) own base bb mm N g outs bs f := by
  obtain ⟨h1, h2, h3, ⟨OV, PV, h4, h5, h6⟩, ⟨nm, h7⟩, h8, h9, h10⟩ := h
  have hrow := h6.row
  simp only [List.length_cons, List.reverse_cons] at hrow h10
  obtain ⟨A, c, rfl, hbA, hlA⟩ := hrow.form (by simp)
  have hnc : bs.length + 1 ≤ c ∧ c ≤ maxLen := by
    rcases hrow.2 with ⟨hv, _⟩ | ⟨_, _, _, hv, _, _, h7, h8, _⟩
    · cases hv
    · injection hv with _ _ hv; subst hv; exact ⟨h7, h8⟩
  have hcell := hrow.cellAt bs.length (by omega)
  rw [ptrs_append, List.getElem?_append_right (by simp [ptrs]), show bs.length - (ptrs bs.reverse).length = 0 by simp [ptrs]] at hcell
  have hb1 := heap_setCell_same w bb 1 _ _ (.slice (some ⟨A, 0, none⟩) bs.length c) h4
  have hsame : ∀ q r, own q = some r → r ≠ .me → ∀ u, (w.setCell ⟨bb, 1, none⟩ u).heap[q]? = w.heap[q]? := fun q r hq hr u =>
    heap_setCell_other (p := ⟨bb, 1, none⟩) (fun e => hr (by simp only [] at e; subst e; rw [h2] at hq; injection hq with hq; exact hq.symm))
  have hpop := ownsRow_pop (size := 1) (n := bs.length) (xs := ptrs bs.reverse) (last := ptrs [b]) (by simp [ptrs]) (by rw [← ptrs_append]; exact hrow)
  have hrole : ∀ q, (Value.slice (some ⟨A, 0, none⟩) bs.length c).ownBlock = some q → own q = some .opens := fun q hq => h6.role q (by simpa [Value.ownBlock] using hq)
  refine ⟨A, bs.length, c, by rw [Lib.cell_of_heap h4]; rfl, rfl, hnc.1, hnc.2, hcell, by rw [Lib.cell_of_heap h4]; rfl, Lib.frozen_of_heap h4 1, ⟨?_, h2, h3, ⟨OV, _, by rw [hb1]; simp, h5.keep (fun q hq => hsame q _ hq (by simp) _) (fun _ _ hq => hq), ⟨?_, hrole⟩⟩, ⟨nm, h7.block (hsame mm _ h3 (by simp) _)⟩, ?_, h9, by omega⟩⟩
  · intro q r hq
    rw [size_set]
    exact h1 q r hq
  · refine own_block hpop fun q hq => hsame q _ (hrole q hq) (by simp) _
  · intro b' r hb
    exact (h8 b' r hb).keep (fun q x' hq hx => hsame q x' hq (fun e => by subst e; cases hx) _) (fun _ _ hq => hq) (Nat.le_refl _)
theorem MI.mapped (h : MI w own base bb mm N g outs opens f) {n : Nat} (hm : MapIs Tryz.prog 9 w' mm n f') (hg : w.grownBy w' (some mm)) : MI w' own base bb mm N g outs opens f' := by
  obtain ⟨h1, h2, h3, ⟨OV, PV, h4, h5, h6⟩, _, h8, h9, h10⟩ := h
  have hsame : ∀ q r, own q = some r → r ≠ .cnt → w'.heap[q]? = w.heap[q]? := fun q r hq hr =>
    hg.block q (h1 q r hq).2 (fun e => hr (by injection e with e; subst e; rw [h3] at hq; injection hq with hq; exact hq.symm))
  exact ⟨fun q r hq => ⟨(h1 q r hq).1, Nat.lt_of_lt_of_le (h1 q r hq).2 hg.size⟩, h2, h3, ⟨OV, PV, (hsame bb _ h2 (by simp)).trans h4, h5.keep (fun q hq => hsame q _ hq (by simp)) (fun _ _ hq => hq), h6.keep (fun q hq => hsame q _ hq (by simp)) (fun _ _ hq => hq)⟩, ⟨n, hm⟩,
    fun b r hb => (h8 b r hb).keep (fun q x' hq hx => hsame q x' hq (fun e => by subst e; cases hx)) (fun _ _ hq => hq) (Nat.le_refl _), h9, h10⟩
theorem MI.push (h : MI w own base bb mm N g outs opens f) :
    ∃ V, w.cell? ⟨bb, 1, none⟩ = some V ∧ w.cell? ⟨bb, 2, none⟩ = some (.map (some mm)) ∧ w.frozen? ⟨bb, 1, none⟩ = false ∧ w.ownsRow base 480 1 V opens.length (ptrs opens.reverse) ∧
      some bb ≠ V.ownBlock ∧ bb < w.heap.size ∧ base ≤ bb ∧ (∀ q, V.ownBlock = some q → own q ≠ none) ∧
      ∀ w1 V' x, w.grownBy w1 V.ownBlock → w1.ownsRow base 480 1 V' (opens.length + 1) (ptrs opens.reverse ++ [.pointer (some ⟨x, 0, none⟩)]) →
        (∀ q, V'.ownBlock = some q → V.ownBlock = some q ∨ w.heap.size ≤ q) →
        ∃ own', Own.Le own own' ∧ MI (w1.setCell ⟨bb, 1, none⟩ V') own' base bb mm (N + 1) g outs (x :: opens) f := by
  obtain ⟨h1, h2, h3, ⟨OV, PV, h4, h5, h6⟩, ⟨nm, h7⟩, h8, h9, h10⟩ := h
  have hbb := (h1 bb _ h2).2
  have hne : some bb ≠ PV.ownBlock := fun e => by have := h6.role bb e.symm; rw [h2] at this; cases this
  refine ⟨PV, by rw [Lib.cell_of_heap h4]; rfl, by rw [Lib.cell_of_heap h4]; rfl, Lib.frozen_of_heap h4 1, h6.row, hne, hbb, (h1 bb _ h2).1, fun q hq => by rw [h6.role q hq]; simp, fun w1 V' x hg hV hat => ?_⟩
  have hle : Own.Le own (own.put V' .opens) := Own.put_le _ _ _
  have hne' : V'.ownBlock ≠ some bb := fun e => by
    rcases hat bb e with e | e
    · exact hne e.symm
    · omega
  have hsame : ∀ q r, own q = some r → r ≠ .opens → r ≠ .me → (w1.setCell ⟨bb, 1, none⟩ V').heap[q]? = w.heap[q]? := fun q r hq hr1 hr2 => by
    rw [heap_setCell_other (p := ⟨bb, 1, none⟩) (fun e => hr2 (by simp only [] at e; subst e; rw [h2] at hq; injection hq with hq; exact hq.symm))]
    exact hg.block q (h1 q r hq).2 (fun e => hr1 (by have := h6.role q e.symm; rw [hq] at this; injection this))
  have hb1 : w1.heap[bb]? = some (.cells #[OV, PV, .map (some mm)] 471 (0, 0)) := (hg.block bb hbb hne).trans h4
  refine ⟨own.put V' .opens, hle, ⟨?_, hle _ _ h2, hle _ _ h3, ⟨OV, V', by rw [heap_setCell_same w1 bb 1 _ _ _ hb1]; simp, h5.keep (fun q hq => hsame q _ hq (by simp) (by simp)) hle, ⟨?_, role_new h1 h6.role hat⟩⟩, ⟨nm, h7.block (hsame mm _ h3 (by simp) (by simp))⟩, ?_, Nat.le_succ_of_le h9, by simpa using h10⟩⟩
  · intro q r hq
    rw [size_set]
    rcases Own.put_inv hq with hq | ⟨hq, _⟩
    · exact ⟨(h1 q r hq).1, Nat.lt_of_lt_of_le (h1 q r hq).2 hg.size⟩
    · exact hV.lt q hq
  · have := ownsRow_setCell_other hV (a := ⟨bb, 1, none⟩) hne' V'
    simpa [ptrs] using this
  · intro b r hb
    exact (h8 b r hb).keep (fun q x' hq hx => hsame q x' hq (fun e => by subst e; cases hx) (fun e => by subst e; cases hx)) hle (Nat.le_succ _)
theorem MI.grow (h : MI w own base bb mm N g outs opens f) {t : Nat} {r : Rc} (hr : g t = some r) (hk : r.kind = 2) :
    ∃ V, w.cell? ⟨t, 5, none⟩ = some V ∧ w.frozen? ⟨t, 5, none⟩ = false ∧ ByR w base V r.text ∧ some t ≠ V.ownBlock ∧ t < w.heap.size ∧ base ≤ t ∧ r.text.length ≤ 2000 * N ∧
      ∀ w1 V' x, x.length ≤ 2000 → w.grownBy w1 V.ownBlock → ByR w1 base V' (r.text ++ x) →
        (∀ q, V'.ownBlock = some q → V.ownBlock = some q ∨ w.heap.size ≤ q) →
        ∃ own', Own.Le own own' ∧ MI (w1.setCell ⟨t, 5, none⟩ V') own' base bb mm (N + 1) (addTx g t x) outs opens f := by
  obtain ⟨h1, h2, h3, ⟨OV, PV, h4, h5, h6⟩, ⟨nm, h7⟩, h8, h9, h10⟩ := h
  obtain ⟨k1, ⟨A, n, c, TV, KV, k2, k3, k4, k5, k6⟩, k7, k8, k9, k10⟩ := h8 t r hr
  have hgr : r.grown = r.text := by simp only [Rc.grown, hk, if_true]
  rw [hgr] at k5
  have hbb := (h1 t _ k1).2
  have hne : some t ≠ TV.ownBlock := fun e => by have := k5.role t e.symm; rw [k1] at this; cases this
  refine ⟨TV, by rw [Lib.cell_of_heap k2]; rfl, Lib.frozen_of_heap k2 5, k5.row, hne, hbb, (h1 t _ k1).1, k8, fun w1 V' x hx hg hV hat => ?_⟩
  have hle : Own.Le own (own.put V' (.txt t)) := Own.put_le _ _ _
  have hne' : V'.ownBlock ≠ some t := fun e => by
    rcases hat t e with e | e
    · exact hne e.symm
    · omega
  have hsame : ∀ q r, own q = some r → r ≠ .txt t → r ≠ .node t → (w1.setCell ⟨t, 5, none⟩ V').heap[q]? = w.heap[q]? := fun q r hq hr1 hr2 => by
    rw [heap_setCell_other (p := ⟨t, 5, none⟩) (fun e => hr2 (by simp only [] at e; subst e; rw [k1] at hq; injection hq with hq; exact hq.symm))]
    exact hg.block q (h1 q r hq).2 (fun e => hr1 (by have := k5.role q e.symm; rw [hq] at this; injection this))
  have hb1 := (hg.block t hbb hne).trans k2
  refine ⟨own.put V' (.txt t), hle, ⟨?_, hle _ _ h2, hle _ _ h3, ⟨OV, PV, (hsame bb _ h2 (by simp) (by simp)).trans h4, h5.keep (fun q hq => hsame q _ hq (by simp) (by simp)) hle, h6.keep (fun q hq => hsame q _ hq (by simp) (by simp)) hle⟩, ⟨nm, h7.block (hsame mm _ h3 (by simp) (by simp))⟩, ?_, Nat.le_succ_of_le h9, Nat.le_succ_of_le h10⟩⟩
  · intro q r' hq
    rw [size_set]
    rcases Own.put_inv hq with hq | ⟨hq, _⟩
    · exact ⟨(h1 q r' hq).1, Nat.lt_of_lt_of_le (h1 q r' hq).2 hg.size⟩
    · exact hV.lt q hq
  · intro b r' hb
    by_cases hbp : b = t
    · subst hbp
      simp only [addTx, if_pos, hr, Option.map_some, Option.some.injEq] at hb
      subst hb
      have hgr2 : Rc.grown { r with text := r.text ++ x } = r.text ++ x := by simp only [Rc.grown, hk, if_true]
      refine ⟨hle _ _ k1, ⟨A, n, c, V', KV, by rw [heap_setCell_same w1 b 5 _ _ _ hb1]; simp [Rc.fixed, hk], k3, ?_, ⟨?_, role_new h1 k5.role hat⟩, k6.keep (fun q hq => hsame q _ hq (by simp) (by simp)) hle⟩, ?_, ?_, k9, k10⟩
      · exact k4.block (fun q hq => hsame q _ hq (by simp) (by simp)) (fun q hq => hle _ _ hq)
      · rw [hgr2]
        exact hV.block fun q hq => heap_setCell_other (p := ⟨b, 5, none⟩) (fun e => hne' (by rw [hq]; simp only [] at e; rw [e]))
      · simp only []; omega
      · simp only [List.length_append]; omega
    · simp only [addTx, if_neg hbp] at hb
      exact (h8 b r' hb).keep (fun q x' hq hx => hsame q x' hq (fun e => by subst e; injection hx with hx; exact hbp hx.symm) (fun e => by subst e; injection hx with hx; exact hbp hx.symm)) hle (Nat.le_succ _)
end
end Go.Proofs.YtnkelhmjkmeilaaGreatDoor.K
end
