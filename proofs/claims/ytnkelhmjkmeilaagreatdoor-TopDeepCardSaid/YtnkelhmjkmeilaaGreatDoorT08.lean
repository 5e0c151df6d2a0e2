/- Plain: what a Builder makes of tokens: the open elements as a zipper, innermost first; its store of records, and how a zipper lies in a store. No program in sight. Plain: the tree of many beginnings of one name, that does not close itself, and characters: element in element; its text begins with the tags. A row of bytes that the call has made itself, also one of '[]byte(s)' (of which what is frozen lies behind its end): it is written on by 'append(b, s...)'. -/
import Derived.KernelRfl
import Derived.Lib.AppendStr
import Derived.Test.YtnkelhmjkmeilaaGreatDoorProg
import Derived.Test.YtnkelhmjkmeilaaGreatDoorT02
import Derived.Test.YtnkelhmjkmeilaaGreatDoorT01
section
namespace Go.Proofs.YtnkelhmjkmeilaaGreatDoor.K
structure Tk where
  kind : Int
  name : List UInt8
  attrs : List Atr
  text : List UInt8
abbrev Hd := List UInt8 × List Atr
abbrev Frs := List (List Nd × Hd)
def elemN (h : Hd) (l : List Nd) : Nd := .mk 1 h.1 h.2 [] l
structure Zp where
  fr : Frs
  last : List Nd
def closeAll : Frs → List Nd → List Nd
  | [], l => l
  | (k, h) :: fs, l => closeAll fs (k ++ [elemN h l])
def Zp.tree (z : Zp) : List Nd := closeAll z.fr z.last
def closersT : List (List UInt8 × List (List UInt8)) :=
  [([112], [[98, 108, 111, 99, 107, 113, 117, 111, 116, 101], [100, 105, 118], [104, 49], [104, 50], [104, 114], [108, 105], [111, 108], [112], [112, 114, 101], [116, 97, 98, 108, 101], [117, 108]]),
   ([108, 105], [[108, 105]]), ([100, 116], [[100, 100], [100, 116]]), ([100, 100], [[100, 100], [100, 116]]), ([111, 112, 116, 105, 111, 110], [[111, 112, 116, 105, 111, 110]]),
   ([116, 100], [[116, 100], [116, 114]]), ([116, 114], [[116, 114]])]
def closesRow (o : List UInt8) : List (List UInt8) := ((closersT.find? fun p => p.1 == o).map (·.2)).getD []
def closesL (o b : List UInt8) : Bool := (closesRow o).contains b
def popWhile (nm : List UInt8) : Frs → List Nd → Zp
  | [], l => ⟨[], l⟩
  | (k, h) :: fs, l => if closesL h.1 nm then popWhile nm fs (k ++ [elemN h l]) else ⟨(k, h) :: fs, l⟩
def popTo (nm : List UInt8) : Frs → List Nd → Zp
  | [], l => ⟨[], l⟩
  | (k, h) :: fs, l => if h.1 = nm then ⟨fs, k ++ [elemN h l]⟩ else popTo nm fs (k ++ [elemN h l])
def cntN (nm : List UInt8) (fs : Frs) : Nat := fs.countP fun x => x.2.1 == nm
def beginZ (z : Zp) (nm : List UInt8) (ats : List Atr) : Zp :=
  let y := popWhile nm z.fr z.last
  if voidL nm then ⟨y.fr, y.last ++ [elemN (nm, ats) []]⟩ else ⟨(y.last, (nm, ats)) :: y.fr, []⟩
def endZ (z : Zp) (nm : List UInt8) : Zp := if cntN nm z.fr = 0 then z else popTo nm z.fr z.last
def addText : List Nd → List UInt8 → List Nd
  | [], x => [.mk 2 [] [] x []]
  | [.mk k nm ats tx kids], x => if k = 2 then [.mk k nm ats (tx ++ x) kids] else [.mk k nm ats tx kids, .mk 2 [] [] x []]
  | n :: m :: l, x => n :: addText (m :: l) x
def charsZ (z : Zp) (tx : List UInt8) : Zp := if tx = [] then z else ⟨z.fr, addText z.last tx⟩
def remarkZ (z : Zp) (tx : List UInt8) : Zp := ⟨z.fr, z.last ++ [.mk 3 [] [] tx []]⟩
def putZ (z : Zp) (t : Tk) : Zp :=
  if t.kind = 1 then beginZ z t.name t.attrs else if t.kind = 2 then endZ z t.name else if t.kind = 3 then charsZ z t.text else if t.kind = 4 then remarkZ z t.text else z
def putsZ (z : Zp) (l : List Tk) : Zp := l.foldl putZ z
def treeL (l : List Tk) : List Nd := (putsZ ⟨[], []⟩ l).tree
theorem addText_snoc (l : List Nd) (k : Int) (nm : List UInt8) (ats : List Atr) (tx : List UInt8) (kids : List Nd) (x : List UInt8) :
    addText (l ++ [.mk k nm ats tx kids]) x = if k = 2 then l ++ [.mk k nm ats (tx ++ x) kids] else l ++ [.mk k nm ats tx kids, .mk 2 [] [] x []] := by
  induction l with
  | nil => simp only [List.nil_append, addText]
  | cons n l ih =>
    cases l with
    | nil =>
      simp only [List.cons_append, List.nil_append] at ih ⊢
      rw [addText, ih]
      split <;> rfl
    | cons m l =>
      simp only [List.cons_append] at ih ⊢
      rw [addText, ih]
      split <;> rfl
structure Rc where
  kind : Int
  name : List UInt8
  attrs : List Atr
  text : List UInt8
  kids : List Nat
abbrev Sto := Nat → Option Rc
def Sto.set (g : Sto) (b : Nat) (r : Rc) : Sto := fun q => if q = b then some r else g q
theorem Sto.set_same (g : Sto) (b : Nat) (r : Rc) : g.set b r b = some r := by simp [Sto.set]
theorem Sto.set_other (g : Sto) {b q : Nat} (r : Rc) (h : q ≠ b) : g.set b r q = g q := by simp [Sto.set, h]
mutual
def Tr (g : Sto) : Nd → Nat → Nat → Prop
  | .mk k nm ats tx kids, hi, b => ∃ ids, g b = some ⟨k, nm, ats, tx, ids⟩ ∧ b < hi ∧ Trs g kids hi (b + 1) ids
def Trs (g : Sto) : List Nd → Nat → Nat → List Nat → Prop
  | [], hi, lo, ids => ids = [] ∧ lo ≤ hi
  | n :: l, hi, lo, ids => ∃ b bs m, ids = b :: bs ∧ lo ≤ b ∧ m ≤ hi ∧ Tr g n m b ∧ Trs g l hi m bs
end
section
variable {g g' : Sto}
theorem Tr.lt {n : Nd} {hi b : Nat} (h : Tr g n hi b) : b < hi := by
  cases n
  simp only [Tr] at h
  exact h.choose_spec.2.1
theorem Trs.lohi {l : List Nd} {hi lo : Nat} {ids : List Nat} (h : Trs g l hi lo ids) : lo ≤ hi := by
  cases l with
  | nil => simp only [Trs] at h; exact h.2
  | cons n l =>
    simp only [Trs] at h
    obtain ⟨b, bs, m, rfl, h1, h2, h3, _⟩ := h
    have := h3.lt
    omega
mutual
theorem Tr.keep : ∀ {n : Nd} {hi b : Nat}, Tr g n hi b → (∀ q, b ≤ q → q < hi → g' q = g q) → Tr g' n hi b
  | .mk _ _ _ _ kids, hi, b, h, hk => by
    simp only [Tr] at h ⊢
    obtain ⟨ids, h1, h2, h3⟩ := h
    exact ⟨ids, (hk b (Nat.le_refl _) h2).trans h1, h2, Trs.keep h3 fun q hq hq' => hk q (by omega) hq'⟩
theorem Trs.keep : ∀ {l : List Nd} {hi lo : Nat} {ids : List Nat}, Trs g l hi lo ids → (∀ q, lo ≤ q → q < hi → g' q = g q) → Trs g' l hi lo ids
  | [], _, _, _, h, _ => by simp only [Trs] at h ⊢; exact h
  | n :: l, hi, lo, ids, h, hk => by
    simp only [Trs] at h ⊢
    obtain ⟨b, bs, m, e, h1, h2, h3, h4⟩ := h
    have := h3.lt
    exact ⟨b, bs, m, e, h1, h2, Tr.keep h3 fun q hq hq' => hk q (by omega) (by omega), Trs.keep h4 fun q hq hq' => hk q (by omega) hq'⟩
end
theorem Trs.more : ∀ {l : List Nd} {hi hi' lo : Nat} {ids : List Nat}, Trs g l hi lo ids → hi ≤ hi' → Trs g l hi' lo ids
  | [], _, _, _, _, h, hh => by simp only [Trs] at h ⊢; exact ⟨h.1, by omega⟩
  | n :: l, hi, hi', lo, ids, h, hh => by
    simp only [Trs] at h ⊢
    obtain ⟨b, bs, m, e, h1, h2, h3, h4⟩ := h
    exact ⟨b, bs, m, e, h1, by omega, h3, Trs.more h4 hh⟩
theorem Tr.more {n : Nd} {hi hi' b : Nat} (h : Tr g n hi b) (hh : hi ≤ hi') : Tr g n hi' b := by
  cases n
  simp only [Tr] at h ⊢
  obtain ⟨ids, h1, h2, h3⟩ := h
  exact ⟨ids, h1, by omega, h3.more hh⟩
theorem Trs.less {l : List Nd} {hi lo lo' : Nat} {ids : List Nat} (h : Trs g l hi lo ids) (hh : lo' ≤ lo) : Trs g l hi lo' ids := by
  cases l with
  | nil => simp only [Trs] at h ⊢; exact ⟨h.1, by omega⟩
  | cons n l =>
    simp only [Trs] at h ⊢
    obtain ⟨b, bs, m, e, h1, rest⟩ := h
    exact ⟨b, bs, m, e, by omega, rest⟩
theorem Trs.append : ∀ {l l' : List Nd} {hi m lo : Nat} {ids ids' : List Nat}, Trs g l m lo ids → Trs g l' hi m ids' → Trs g (l ++ l') hi lo (ids ++ ids')
  | [], l', hi, m, lo, ids, ids', h, h' => by
    simp only [Trs] at h
    obtain ⟨rfl, h2⟩ := h
    exact h'.less h2
  | n :: l, l', hi, m, lo, ids, ids', h, h' => by
    simp only [Trs, List.cons_append] at h ⊢
    obtain ⟨b, bs, m', rfl, h1, h2, h3, h4⟩ := h
    have := h'.lohi
    exact ⟨b, bs ++ ids', m', rfl, h1, by omega, h3, Trs.append h4 h'⟩
theorem Trs.snoc {l : List Nd} {n : Nd} {hi b lo : Nat} {ids : List Nat} (h : Trs g l b lo ids) (h' : Tr g n hi b) : Trs g (l ++ [n]) hi lo (ids ++ [b]) := by
  refine Trs.append h ?_
  simp only [Trs]
  exact ⟨b, [], hi, rfl, Nat.le_refl _, Nat.le_refl _, h', rfl, Nat.le_refl _⟩
theorem Trs.snoc_inv : ∀ {l : List Nd} {n : Nd} {hi lo : Nat} {ids : List Nat}, Trs g (l ++ [n]) hi lo ids → ∃ cl b, ids = cl ++ [b] ∧ Trs g l b lo cl ∧ Tr g n hi b
  | [], n, hi, lo, ids, h => by
    simp only [List.nil_append, Trs] at h
    obtain ⟨b, bs, m, rfl, h1, h2, h3, rfl, _⟩ := h
    exact ⟨[], b, rfl, by simp only [Trs]; exact ⟨trivial, h1⟩, h3.more h2⟩
  | x :: l, n, hi, lo, ids, h => by
    simp only [List.cons_append, Trs] at h
    obtain ⟨b, bs, m, rfl, h1, h2, h3, h4⟩ := h
    obtain ⟨cl, b', rfl, h5, h6⟩ := Trs.snoc_inv h4
    refine ⟨b :: cl, b', rfl, ?_, h6⟩
    simp only [Trs]
    exact ⟨b, cl, m, rfl, h1, h5.lohi, h3, h5⟩
theorem Trs.length : ∀ {l : List Nd} {hi lo : Nat} {ids : List Nat}, Trs g l hi lo ids → ids.length = l.length
  | [], _, _, _, h => by simp only [Trs] at h; rw [h.1]; rfl
  | n :: l, hi, lo, ids, h => by
    simp only [Trs] at h
    obtain ⟨b, bs, m, rfl, _, _, _, h4⟩ := h
    rw [List.length_cons, List.length_cons, Trs.length h4]
end
def plIds (g : Sto) (outs : List Nat) : List Nat → List Nat
  | [] => outs
  | b :: _ => ((g b).map (·.kids)).getD []
def plLo : List Nat → Nat
  | [] => 0
  | b :: _ => b + 1
def Sp (g : Sto) (outs : List Nat) : List Nat → Frs → Prop
  | [], [] => True
  | b :: bs, (k, h) :: fs => (∃ ids, g b = some ⟨1, h.1, h.2, [], ids⟩) ∧ (∃ cl, plIds g outs bs = cl ++ [b] ∧ Trs g k b (plLo bs) cl) ∧ Sp g outs bs fs
  | _, _ => False
def ZR (g : Sto) (outs opens : List Nat) (hi : Nat) (z : Zp) : Prop := Sp g outs opens z.fr ∧ Trs g z.last hi (plLo opens) (plIds g outs opens)
section
variable {g g' : Sto} {outs opens : List Nat} {hi : Nat} {z : Zp}
theorem Sp.keep {lim : Nat} (hk : ∀ q, q < lim → g' q = g q) : ∀ {opens : List Nat} {fs : Frs}, plLo opens ≤ lim → Sp g outs opens fs → Sp g' outs opens fs ∧ plIds g' outs opens = plIds g outs opens
  | [], [], _, _ => ⟨trivial, rfl⟩
  | [], _ :: _, _, h => absurd h (by simp [Sp])
  | _ :: _, [], _, h => absurd h (by simp [Sp])
  | b :: bs, (k, h) :: fs, hlo, hs => by
    simp only [Sp] at hs ⊢
    obtain ⟨⟨ids, h1⟩, ⟨cl, h2, h3⟩, h4⟩ := hs
    have hb : b < lim := by simp only [plLo] at hlo; omega
    have h5 := h3.lohi
    obtain ⟨h6, h7⟩ := Sp.keep hk (by omega) h4
    have h8 : g' b = g b := hk b hb
    exact ⟨⟨⟨ids, h8.trans h1⟩, ⟨cl, h7.trans h2, h3.keep fun q _ hq => hk q (by omega)⟩, h6⟩, by simp only [plIds, h8]⟩
theorem Sp.len : ∀ {opens : List Nat} {fs : Frs}, Sp g outs opens fs → opens.length = fs.length
  | [], [], _ => rfl
  | [], _ :: _, h => absurd h (by simp [Sp])
  | _ :: _, [], h => absurd h (by simp [Sp])
  | b :: bs, (k, h) :: fs, hs => by
    simp only [Sp] at hs
    rw [List.length_cons, List.length_cons, Sp.len hs.2.2]
def addKid (g : Sto) : List Nat → Nat → Sto
  | [], _ => g
  | p :: _, b => fun q => if q = p then (g p).map fun r => { r with kids := r.kids ++ [b] } else g q
def addOut (outs : List Nat) : List Nat → Nat → List Nat
  | [], b => outs ++ [b]
  | _ :: _, _ => outs
theorem ZR.add (h : ZR g outs opens hi z) {b : Nat} (hb : hi ≤ b) (k : Int) (nm : List UInt8) (ats : List Atr) (tx : List UInt8) :
    ZR (addKid (g.set b ⟨k, nm, ats, tx, []⟩) opens b) (addOut outs opens b) opens (b + 1) ⟨z.fr, z.last ++ [.mk k nm ats tx []]⟩ ∧
    plIds (addKid (g.set b ⟨k, nm, ats, tx, []⟩) opens b) (addOut outs opens b) opens = plIds g outs opens ++ [b] := by
  obtain ⟨h1, h2⟩ := h
  have h3 := h2.lohi
  have hleaf : Tr (g.set b ⟨k, nm, ats, tx, []⟩) (.mk k nm ats tx []) (b + 1) b := by
    simp only [Tr]
    exact ⟨[], Sto.set_same _ _ _, by omega, by simp only [Trs]; exact ⟨trivial, Nat.le_refl _⟩⟩
  have hlast : Trs (g.set b ⟨k, nm, ats, tx, []⟩) z.last b (plLo opens) (plIds g outs opens) := (h2.more hb).keep (fun q hq hq' => Sto.set_other _ _ (by omega)) |> fun x => x
  obtain ⟨fr, last⟩ := z
  match opens, fr, h1 with
  | [], [], _ =>
    simp only [addKid, addOut, plIds, plLo] at hlast ⊢
    exact ⟨⟨trivial, hlast.snoc hleaf⟩, trivial⟩
  | p :: bs, (k', h') :: fs, hs =>
    simp only [plLo] at h2 h3 hlast
    simp only [Sp] at hs
    obtain ⟨⟨ids, e1⟩, ⟨cl, e2, e3⟩, e4⟩ := hs
    have hp : p ≠ b := by omega
    have hgp : g.set b ⟨k, nm, ats, tx, []⟩ p = some ⟨1, h'.1, h'.2, [], ids⟩ := (Sto.set_other _ _ hp).trans e1
    have hkeep : ∀ q, q < p → addKid (g.set b ⟨k, nm, ats, tx, []⟩) (p :: bs) b q = g q := fun q hq => by
      simp only [addKid, if_neg (show q ≠ p by omega)]
      exact Sto.set_other _ _ (by omega)
    have hnew : addKid (g.set b ⟨k, nm, ats, tx, []⟩) (p :: bs) b p = some ⟨1, h'.1, h'.2, [], ids ++ [b]⟩ := by
      simp only [addKid, if_pos, hgp, Option.map_some]
    have hids : plIds g outs (p :: bs) = ids := by simp only [plIds, e1, Option.map_some, Option.getD_some]
    have hids' : plIds (addKid (g.set b ⟨k, nm, ats, tx, []⟩) (p :: bs) b) (addOut outs (p :: bs) b) (p :: bs) = ids ++ [b] := by simp only [plIds, hnew, Option.map_some, Option.getD_some]
    have e5 := e3.lohi
    obtain ⟨e6, e7⟩ := Sp.keep hkeep e5 e4
    have hafter : ∀ q, p + 1 ≤ q → addKid (g.set b ⟨k, nm, ats, tx, []⟩) (p :: bs) b q = g.set b ⟨k, nm, ats, tx, []⟩ q := fun q hq => by simp only [addKid, if_neg (show q ≠ p by omega)]
    refine ⟨⟨?_, ?_⟩, by rw [hids', hids]⟩
    · simp only [Sp]
      exact ⟨⟨_, hnew⟩, ⟨cl, e7.trans e2, e3.keep fun q _ hq => hkeep q hq⟩, e6⟩
    · rw [hids', ← hids]
      exact Trs.snoc (hlast.keep fun q hq _ => hafter q hq) (hleaf.keep fun q hq _ => hafter q (by omega))
theorem ZR.openN {fr : Frs} {l : List Nd} {h : Hd} (hz : ZR g outs opens hi ⟨fr, l ++ [elemN h []]⟩) {cl : List Nat} {b : Nat} (hb : plIds g outs opens = cl ++ [b]) : ZR g outs (b :: opens) hi ⟨(l, h) :: fr, []⟩ := by
  obtain ⟨h1, h2⟩ := hz
  obtain ⟨cl', b', e1, e2, e3⟩ := h2.snoc_inv
  rw [hb] at e1
  obtain ⟨rfl, e4⟩ := List.append_inj' e1 rfl
  injection e4 with e4
  subst e4
  simp only [elemN, Tr] at e3
  obtain ⟨ids, e5, e6, e7⟩ := e3
  simp only [Trs] at e7
  obtain ⟨rfl, e8⟩ := e7
  refine ⟨?_, ?_⟩
  · simp only [Sp]
    exact ⟨⟨_, e5⟩, ⟨cl, hb, e2⟩, h1⟩
  · simp only [plIds, plLo, e5, Option.map_some, Option.getD_some, Trs]
    exact ⟨trivial, e6⟩
theorem ZR.shut {b : Nat} {bs : List Nat} {k : List Nd} {h : Hd} {fs : Frs} {l : List Nd} (hz : ZR g outs (b :: bs) hi ⟨(k, h) :: fs, l⟩) : ZR g outs bs hi ⟨fs, k ++ [elemN h l]⟩ := by
  obtain ⟨h1, h2⟩ := hz
  simp only [Sp] at h1
  obtain ⟨⟨ids, e1⟩, ⟨cl, e2, e3⟩, e4⟩ := h1
  refine ⟨e4, ?_⟩
  rw [e2]
  refine e3.snoc ?_
  simp only [plIds, plLo, e1, Option.map_some, Option.getD_some] at h2
  have := h2.lohi
  simp only [elemN, Tr]
  exact ⟨ids, e1, by omega, h2⟩
def addTx (g : Sto) (t : Nat) (x : List UInt8) : Sto := fun q => if q = t then (g t).map fun r => { r with text := r.text ++ x } else g q
theorem ZR.lastIs {fr : Frs} {l : List Nd} {k : Int} {nm : List UInt8} {ats : List Atr} {tx : List UInt8} {kids : List Nd} (hz : ZR g outs opens hi ⟨fr, l ++ [.mk k nm ats tx kids]⟩) :
    ∃ cl t ids, plIds g outs opens = cl ++ [t] ∧ g t = some ⟨k, nm, ats, tx, ids⟩ ∧ ∀ x, ZR (addTx g t x) outs opens hi ⟨fr, l ++ [.mk k nm ats (tx ++ x) kids]⟩ := by
  obtain ⟨h1, h2⟩ := hz
  obtain ⟨cl, t, e1, e2, e3⟩ := h2.snoc_inv
  simp only [Tr] at e3
  obtain ⟨ids, e4, e5, e6⟩ := e3
  refine ⟨cl, t, ids, e1, e4, fun x => ?_⟩
  have hlo := e2.lohi
  have hk : ∀ q, q ≠ t → addTx g t x q = g q := fun q hq => by simp only [addTx, if_neg hq]
  have hs : addTx g t x t = some ⟨k, nm, ats, tx ++ x, ids⟩ := by simp only [addTx, if_pos, e4, Option.map_some]
  obtain ⟨e7, e8⟩ := Sp.keep (lim := t) (fun q hq => hk q (by omega)) hlo h1
  refine ⟨e7, ?_⟩
  rw [e8, e1]
  refine Trs.snoc (e2.keep fun q _ hq => hk q (by omega)) ?_
  simp only [Tr]
  exact ⟨ids, hs, e5, e6.keep fun q hq _ => hk q (by omega)⟩
theorem ZR.more {hi' : Nat} (h : ZR g outs opens hi z) (hh : hi ≤ hi') : ZR g outs opens hi' z := ⟨h.1, h.2.more hh⟩
theorem ZR.tree (h : ZR g outs opens hi z) : Trs g z.tree hi 0 outs := by
  obtain ⟨fr, last⟩ := z
  induction fr generalizing opens last with
  | nil =>
    cases opens with
    | nil => exact h.2
    | cons b bs => exact absurd h.1 (by simp [Sp])
  | cons f fs ih =>
    cases opens with
    | nil => exact absurd h.1 (by simp [Sp])
    | cons b bs =>
      obtain ⟨k, h'⟩ := f
      exact ih (opens := bs) (last := k ++ [elemN h' last]) h.shut
theorem ZR.start : ZR (fun _ => none) [] [] hi ⟨[], []⟩ := ⟨trivial, by simp only [plIds, plLo, Trs]; exact ⟨trivial, Nat.zero_le _⟩⟩
end
end Go.Proofs.YtnkelhmjkmeilaaGreatDoor.K
end
section
namespace Go.Proofs.YtnkelhmjkmeilaaGreatDoor.K
def nestL (nm : List UInt8) : Nat → List Nd → List Nd
  | 0, l => l
  | n + 1, l => [elemN (nm, []) (nestL nm n l)]
theorem nestL_in (nm : List UInt8) (l : List Nd) : ∀ n, nestL nm n [elemN (nm, []) l] = nestL nm (n + 1) l
  | 0 => rfl
  | n + 1 => by rw [nestL, nestL_in nm l n]; rfl
theorem close_nest (nm : List UInt8) : ∀ (n : Nat) (l : List Nd), closeAll (List.replicate n ([], (nm, []))) l = nestL nm n l
  | 0, _ => rfl
  | n + 1, l => by
    rw [List.replicate_succ, closeAll, List.nil_append, close_nest nm n, nestL_in]
theorem put_beg {nm : List UInt8} (hv : voidL nm = false) (hc : closesL nm nm = false) (n : Nat) : putZ ⟨List.replicate n ([], (nm, [])), []⟩ ⟨1, nm, [], []⟩ = ⟨List.replicate (n + 1) ([], (nm, [])), []⟩ := by
  have hp : popWhile nm (List.replicate n ([], (nm, []))) [] = ⟨List.replicate n ([], (nm, [])), []⟩ := by
    cases n with
    | zero => rfl
    | succ n => rw [List.replicate_succ, popWhile, if_neg (by simp [hc])]
  unfold putZ
  rw [if_pos rfl]
  unfold beginZ
  simp only [hp, hv]
  rw [List.replicate_succ]
  rfl
theorem puts_begs {nm : List UInt8} (hv : voidL nm = false) (hc : closesL nm nm = false) : ∀ n, putsZ ⟨[], []⟩ (List.replicate n ⟨1, nm, [], []⟩) = ⟨List.replicate n ([], (nm, [])), []⟩
  | 0 => rfl
  | n + 1 => by
    rw [List.replicate_succ', putsZ, List.foldl_append]
    have := puts_begs hv hc n
    unfold putsZ at this
    rw [this]
    simp only [List.foldl_cons, List.foldl_nil]
    exact put_beg hv hc n
def innerN (x : List UInt8) : List Nd := if x = [] then [] else [.mk 2 [] [] x []]
theorem tree_deep {nm : List UInt8} (hv : voidL nm = false) (hc : closesL nm nm = false) (n : Nat) (x : List UInt8) :
    treeL (List.replicate n ⟨1, nm, [], []⟩ ++ (if x = [] then [] else [⟨3, [], [], x⟩])) = nestL nm n (innerN x) := by
  unfold treeL putsZ
  rw [List.foldl_append]
  have := puts_begs hv hc n
  unfold putsZ at this
  rw [this]
  by_cases hx : x = []
  · rw [if_pos hx]
    simp only [List.foldl_nil, Zp.tree, innerN, if_pos hx]
    exact close_nest nm n []
  · rw [if_neg hx]
    simp only [List.foldl_cons, List.foldl_nil, putZ, charsZ, if_neg hx, innerN, Zp.tree, addText]
    exact close_nest nm n _
end Go.Proofs.YtnkelhmjkmeilaaGreatDoor.K
end
section
namespace Go.Proofs.YtnkelhmjkmeilaaGreatDoor.K
open Go.RowKit
def ByR (w : World) (base : Nat) (v : Value) (l : List UInt8) : Prop :=
  (v = .slice none 0 0 ∧ l = []) ∨ ∃ g cap cur fz, v = .slice (some ⟨g, 0, none⟩) l.length cap ∧ base ≤ g ∧ w.heap[g]? = some (.cells cur 5 fz) ∧ (fz.2 = 0 ∨ cur.size ≤ fz.1) ∧
    l.length ≤ cap ∧ cap ≤ maxLen ∧ cur.size = cap ∧ cur.toList.take l.length = Lib.byteCells l
section
variable {w w' : World} {base : Nat} {v : Value} {l : List UInt8}
theorem ByR.nil (w : World) (base : Nat) : ByR w base (.slice none 0 0) [] := .inl ⟨rfl, rfl⟩
theorem ByR.lt (h : ByR w base v l) : ∀ q, v.ownBlock = some q → base ≤ q ∧ q < w.heap.size := by
  intro q hq
  rcases h with ⟨rfl, _⟩ | ⟨g, cap, cur, fz, rfl, hb, hg, _⟩
  · simp [Value.ownBlock] at hq
  · simp [Value.ownBlock] at hq
    subst hq
    exact ⟨hb, (Array.getElem?_eq_some_iff.1 hg).1⟩
theorem ByR.block (h : ByR w base v l) (hk : ∀ q, v.ownBlock = some q → w'.heap[q]? = w.heap[q]?) : ByR w' base v l := by
  rcases h with h0 | ⟨g, cap, cur, fz, rfl, hb, hg, rest⟩
  · exact .inl h0
  · exact .inr ⟨g, cap, cur, fz, rfl, hb, (hk g rfl).trans hg, rest⟩
theorem ByR.of_own {e : TypeId} {n : Nat} (he : e = 5) (hn : n = l.length) (h : w.ownsRow base e 1 v n (Lib.byteCells l)) : ByR w base v l := by
  subst he hn
  rcases h.2 with ⟨rfl, h0⟩ | ⟨g, cap, cur, rfl, hb, hg, hnc, hcm, hcs, ht⟩
  · exact .inl ⟨rfl, List.eq_nil_of_length_eq_zero h0⟩
  · exact .inr ⟨g, cap, cur, (0, 0), rfl, hb, hg, .inl rfl, hnc, hcm, by omega, by simpa using ht⟩
theorem ByR.shape (h : ByR w base v l) : ∃ A c, v = .slice A l.length c ∧ l.length ≤ c := by
  rcases h with ⟨rfl, rfl⟩ | ⟨g, cap, cur, fz, rfl, hb, hg, _, hc, _⟩
  · exact ⟨none, 0, rfl, Nat.le_refl _⟩
  · exact ⟨_, _, rfl, hc⟩
theorem ByR.rd {A : Option Addr} {n c : Nat} (h : ByR w base (.slice A n c) l) : Rd w w.heap.size 1 A n (Lib.byteCells l) := by
  rcases h with ⟨hv, rfl⟩ | ⟨g, cap, cur, fz, hv, hb, hg, _, hc, _, hcs, ht⟩
  · injection hv with h1 h2 h3
    subst h1 h2
    exact Rd.nil _ _ _ _
  · injection hv with h1 h2 h3
    subst h1 h2
    refine ⟨by rw [Lib.byteCells_length, Nat.mul_one], fun _ => ⟨_, rfl, (Array.getElem?_eq_some_iff.1 hg).1, fun j u hu => ?_⟩⟩
    rw [show (⟨g, 0, none⟩ : Addr).add j = ⟨g, j, none⟩ by unfold Addr.add; split <;> simp_all, cell_of_row w g j cur _ fz hg]
    rw [← ht, List.getElem?_take] at hu
    split at hu
    · simpa using hu
    · cases hu
theorem ByR.made (w : World) (hb : base ≤ w.heap.size) (l : List UInt8) (hl : l.length ≤ maxLen) (k : Nat) (hk : k = (bytesRow ⟨l.toArray⟩ (grownCap w l.length 0 5)).size) :
    ByR (w.drew.alloc (.cells (bytesRow ⟨l.toArray⟩ (grownCap w l.length 0 5)) 5 (k, k + 1))) base (.slice (some ⟨w.heap.size, 0, none⟩) l.length (grownCap w l.length 0 5)) l := by
  have hge := grownCap_ge w l.length 0 5
  refine .inr ⟨w.heap.size, _, _, _, rfl, hb, heap_alloc_new w.drew _, .inr (by rw [hk]; exact Nat.le_refl _), hge, grownCap_le_maxLen _ _ _ _ hl, ?_, ?_⟩
  · have hs : (⟨l.toArray⟩ : ByteArray).size = l.length := rfl
    simp only [bytesRow, Array.size_append, Array.size_map, Array.size_replicate, hs, List.size_toArray]
    omega
  · simp only [bytesRow, Array.toList_append, Array.toList_map]
    rw [List.take_left' (by simp)]
    rfl
end
section
variable {P : Program}
theorem store_free (g o : Nat) (t : TypeId) (fz : Nat × Nat) : ∀ (vs : List Value) (i : Nat) (cur : Array Value) (w : World), w.heap[g]? = some (.cells cur t fz) → (fz.2 = 0 ∨ cur.size ≤ fz.1) → o + i + vs.length ≤ cur.size → (∀ v ∈ vs, v.oneCell' = true) →
    (storeCells ⟨g, o, none⟩ vs i).run P w = .ok () (w.setRow g (cur.toList.take (o + i) ++ vs ++ cur.toList.drop (o + i + vs.length)).toArray)
  | [], i, cur, w, hg, _, _, _ => by
    simp only [storeCells, List.append_nil, List.length_nil, Nat.add_zero, List.take_append_drop, Array.toArray_toList]
    rw [setRow_self w g cur t fz hg]
    rfl
  | v :: rest, i, cur, w, hg, hf, hl, h1 => by
    rw [List.length_cons] at hl
    have hlt : o + i < cur.size := by omega
    have ha : (⟨g, o, none⟩ : Addr).add i = ⟨g, o + i, none⟩ := by unfold Addr.add; split <;> simp_all
    have hc : w.cell? ⟨g, o + i, none⟩ = some cur[o + i] := by simp [World.cell?, hg, hlt]
    have hz : w.frozen? ⟨g, o + i, none⟩ = false := by
      obtain ⟨p, q⟩ := fz
      simp only [World.frozen?, hg, Bool.and_eq_false_iff, decide_eq_false_iff_not]
      simp only at hf
      omega
    have hs : (store ((⟨g, o, none⟩ : Addr).add i) v).run P w = .ok () (w.setRow g (cur.setIfInBounds (o + i) v)) := by
      rw [ha, run_store P w _ v _ (h1 v (by simp)), hc]
      simp [hz, setCell_eq_setRow w g (o + i) cur t fz v hg]
    have ih := store_free g o t fz rest (i + 1) (cur.setIfInBounds (o + i) v) (w.setRow g (cur.setIfInBounds (o + i) v)) (setRow_heap w g cur _ t _ hg) (by simpa using hf) (by simp; omega) (fun x hx => h1 x (by simp [hx]))
    simp only [storeCells, Sem.run_bind, hs, Result.andThen_ok, ih, setRow_setRow]
    congr 3
    have e := list_seg_step cur.toList (o + i) v rest (by simp; omega)
    simpa [Array.toList_setIfInBounds, Nat.add_assoc] using e
theorem strCells_mk (x : List UInt8) : Lib.strCells ⟨x.toArray⟩ = Lib.byteCells x := rfl
theorem info_u8 : (Tryz.prog.info? 5).map (fun i => (i.zero, i.size, i.bytes)) = some (some (.int .u8 0), 1, 1) := by kernel_rfl
set_option maxRecDepth 100000 in
theorem run_byte_app' {w : World} {base : Nat} {v : Value} {l : List UInt8} (h : ByR w base v l) (x : List UInt8) (ty : TypeId) (hx : l.length + x.length ≤ 1000000000) (hbase : base ≤ w.heap.size) :
    ∃ v' w', (Builtin.append_ #[23, 9] ty #[v, .string ⟨x.toArray⟩]).run Tryz.prog w = .ok v' w' ∧ ByR w' base v' (l ++ x) ∧ w.grownBy w' v.ownBlock ∧ (∀ q, v'.ownBlock = some q → v.ownBlock = some q ∨ w.heap.size ≤ q) ∧ ByR w' base v l := by
  obtain ⟨i, hi, hz, hsize, hby⟩ := info_parts info_u8
  have hs : (⟨x.toArray⟩ : ByteArray).size = x.length := rfl
  have hm : (maxLen : Nat) = 9223372036854775807 ∨ 1000000000 ≤ maxLen := .inr (by unfold maxLen; omega)
  have hml : 1000000000 ≤ maxLen := by unfold maxLen; omega
  rcases h with ⟨rfl, rfl⟩ | ⟨g, cap, cur, fz, rfl, hb, hg, hf, hc, hcm, hcs, ht⟩
  · simp only [List.length_nil, Nat.zero_add] at hx
    by_cases h0 : x.length = 0
    · obtain rfl : x = [] := List.eq_nil_of_length_eq_zero h0
      obtain ⟨v', w', h1, h2, h3, h4⟩ := Lib.run_append_own_string (P := Tryz.prog) w base 23 9 ty 5 i Tryz.underlying23 Tryz.underlying9 hi hz hsize hby (.slice none 0 0) 0 [] (World.ownsRow_nil _ _ _ _) ⟨#[]⟩ (by simp [maxLen]; decide) (by decide) hbase
      have hv : v' = .slice none 0 0 := h4.2 ⟨rfl, rfl⟩
      subst hv
      exact ⟨_, w', h1, ByR.nil _ _, h3, fun q hq => by simp [Value.ownBlock] at hq, ByR.nil _ _⟩
    · have hr := run_append_nil_string (P := Tryz.prog) w 23 9 ty 5 i (.int .u8 0) Tryz.underlying23 Tryz.underlying9 hi hz ⟨x.toArray⟩ (by omega) (by omega) (by rw [hby, hs]; omega)
      obtain ⟨v', w', h1, h2, h3, h4⟩ := Lib.run_append_own_string (P := Tryz.prog) w base 23 9 ty 5 i Tryz.underlying23 Tryz.underlying9 hi hz hsize hby (.slice none 0 0) 0 [] (World.ownsRow_nil _ _ _ _) ⟨x.toArray⟩ (by omega) (by omega) hbase
      rw [hr] at h1
      injection h1 with h5 h6
      subst h5 h6
      have hb2 := ByR.of_own (e := 5) (l := x) (n := 0 + (⟨x.toArray⟩ : ByteArray).size) rfl (by rw [hs, Nat.zero_add]) (by rw [← strCells_mk]; exact h2)
      refine ⟨_, _, hr, hb2, h3, fun q hq => .inr ?_, ByR.nil _ _⟩
      simp [Value.ownBlock] at hq
      omega
  · by_cases hroom : l.length + x.length ≤ cap
    · have hf2 := Lib.run_firstCells_string (P := Tryz.prog) w 1 ⟨x.toArray⟩
      have hst := store_free (P := Tryz.prog) g l.length 5 fz (Lib.strCells ⟨x.toArray⟩) 0 cur w hg hf (by rw [Lib.strCells_length, hs]; omega) (Lib.strCells_oneCell _)
      simp only [Nat.add_zero, Lib.strCells_length, hs] at hst hf2
      have hr : (Builtin.append_ #[23, 9] ty #[.slice (some ⟨g, 0, none⟩) l.length cap, .string ⟨x.toArray⟩]).run Tryz.prog w = .ok (.slice (some ⟨g, 0, none⟩) (l.length + x.length) cap) (w.setRow g (cur.toList.take l.length ++ Lib.strCells ⟨x.toArray⟩ ++ cur.toList.drop (l.length + x.length)).toArray) := by
        simp [Builtin.append_, run_underlying Tryz.underlying23, run_underlying Tryz.underlying9, sizeOf, typeInfo, hi, hsize, Builtin.lenOf, hs, hroom, hf2, Addr.add_lit, hst]
      refine ⟨_, _, hr, .inr ⟨g, cap, _, fz, by simp, hb, setRow_heap w g cur _ _ _ hg, ?_, by simpa using hroom, hcm, ?_, ?_⟩, ⟨rfl, rfl, rfl, by simp, fun k _ hk => setRow_other w g k _ (fun e => hk (by simp [Value.ownBlock, e]))⟩, fun q hq => .inl (by simpa [Value.ownBlock] using hq), .inr ⟨g, cap, _, fz, rfl, hb, setRow_heap w g cur _ _ _ hg, ?_, hc, hcm, ?_, ?_⟩⟩
      · rcases hf with hf | hf
        · exact .inl hf
        · refine .inr ?_
          simp only [List.size_toArray, List.length_append, List.length_take, List.length_drop, Array.length_toList, Lib.strCells_length, hs]
          omega
      · simp only [List.size_toArray, List.length_append, List.length_take, List.length_drop, Array.length_toList, Lib.strCells_length, hs]
        omega
      · rw [ht, strCells_mk]
        simp only [List.length_append]
        rw [List.take_left' (by simp [Lib.byteCells])]
        simp [Lib.byteCells]
      · rcases hf with hf | hf
        · exact .inl hf
        · refine .inr ?_
          simp only [List.size_toArray, List.length_append, List.length_take, List.length_drop, Array.length_toList, Lib.strCells_length, hs]
          omega
      · simp only [List.size_toArray, List.length_append, List.length_take, List.length_drop, Array.length_toList, Lib.strCells_length, hs]
        omega
      · rw [ht, strCells_mk]
        simp only [List.append_assoc]
        rw [List.take_left' (by simp [Lib.byteCells])]
    · have holds : ∀ j u, (Lib.byteCells l)[j]? = some u → w.cell? ((⟨g, 0, none⟩ : Addr).add j) = some u := by
        have := (ByR.rd (A := some ⟨g, 0, none⟩) (n := l.length) (c := cap) (.inr ⟨g, cap, cur, fz, rfl, hb, hg, hf, hc, hcm, hcs, ht⟩)).2
        intro j u hu
        obtain ⟨a, e, _, hcell⟩ := this (by intro e; rw [e] at hu; simp at hu)
        injection e with e
        subst e
        exact hcell j u hu
      have hr := Lib.run_append_grow_string (P := Tryz.prog) w 23 9 ty 5 i (.int .u8 0) Tryz.underlying23 Tryz.underlying9 hi hz ⟨g, 0, none⟩ l.length cap (Lib.byteCells l) (by rw [hsize, Lib.byteCells_length]; simp) holds ⟨x.toArray⟩ (by omega) (by omega) (by rw [hby]; exact growslice_fits (by omega) (by omega))
      have hge := grownCap_ge w (l.length + x.length) cap 5
      rw [hs] at hr
      refine ⟨_, _, hr, .inr ⟨w.heap.size, _, _, (0, 0), by rw [List.length_append], hbase, heap_alloc_new w.drew _, .inl rfl, by simpa using hge, grownCap_le_maxLen _ _ _ _ (by omega), ?_, ?_⟩, ⟨rfl, rfl, rfl, by simp, fun k hk _ => Below.heap_alloc w.drew _ k hk⟩, fun q hq => .inr ?_, .inr ⟨g, cap, cur, fz, rfl, hb, (Below.heap_alloc w.drew _ g (Array.getElem?_eq_some_iff.1 hg).1).trans hg, hf, hc, hcm, hcs, ht⟩⟩
      · have hz1 : (Value.int IntKind.u8 0).cells.size = 1 := rfl
        simp only [Array.size_append, List.size_toArray, size_zeroCells, hz1, Lib.byteCells_length, Lib.strCells_length, hs]
        omega
      · simp only [Array.toList_append, List.append_assoc, strCells_mk]
        rw [← List.append_assoc, List.length_append, List.take_left' (by simp [Lib.byteCells])]
        simp [Lib.byteCells]
      · simp [Value.ownBlock] at hq
        omega
theorem run_byte_app {w : World} {base : Nat} {v : Value} {l : List UInt8} (h : ByR w base v l) (x : List UInt8) (ty : TypeId) (hx : l.length + x.length ≤ 1000000000) (hbase : base ≤ w.heap.size) :
    ∃ v' w', (Builtin.append_ #[23, 9] ty #[v, .string ⟨x.toArray⟩]).run Tryz.prog w = .ok v' w' ∧ ByR w' base v' (l ++ x) ∧ w.grownBy w' v.ownBlock ∧ (∀ q, v'.ownBlock = some q → v.ownBlock = some q ∨ w.heap.size ≤ q) := by
  obtain ⟨v', w', h1, h2, h3, h4, _⟩ := run_byte_app' h x ty hx hbase
  exact ⟨v', w', h1, h2, h3, h4⟩
theorem step_byte_app {w : World} {ops : Array Oper} {o : Oper} {a : Act} {K : Act → World → Prop} {Q : Exit → Act → World → Prop} {E : Prop} (hgd : o.guard = none) (s y : Operand) (ho : o.op = .call { callee := .builtin .append, args := #[s, y], argTypes := #[23, 9] })
    {base : Nat} {v : Value} {l : List UInt8} (hs : a.eval s = v) (h : ByR w base v l) (x : List UInt8) (hy : a.eval y = .string ⟨x.toArray⟩) (hx : l.length + x.length ≤ 1000000000) (hbase : base ≤ w.heap.size)
    (hK : ∀ A' c' w', ByR w' base (.slice A' (l.length + x.length) c') (l ++ x) → w.grownBy w' v.ownBlock → (∀ q, (Value.slice A' (l.length + x.length) c').ownBlock = some q → v.ownBlock = some q ∨ w.heap.size ≤ q) → K (a.put o.dst (.slice A' (l.length + x.length) c')) w') :
    if Region.wanted o (yielded ops a.tmps) = true then Oper.wp Tryz.prog o a w K Q else E := by
  have hw : Region.wanted o (yielded ops a.tmps) = true := by simp [Region.wanted, hgd]
  rw [if_pos hw]
  obtain ⟨v', w', hr, h2, h3, h4⟩ := run_byte_app h x o.type hx hbase
  unfold Oper.wp execOp
  simp only [ho, resolve, invoke, builtin, Sem.run_bind, Sem.run_pure, Result.andThen_ok, List.map_toArray, List.map_cons, List.map_nil, hs, hy, hr]
  obtain ⟨A', c', rfl, _⟩ := h2.shape
  rw [List.length_append] at h2 h4 ⊢
  exact hK A' c' w' h2 h3 h4
end
end Go.Proofs.YtnkelhmjkmeilaaGreatDoor.K
end
