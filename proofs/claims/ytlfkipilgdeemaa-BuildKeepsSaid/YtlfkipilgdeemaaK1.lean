/- Plain: what a Builder makes of tokens: the open elements as a zipper, innermost first; its store of records, and how a zipper lies in a store. No program in sight. -/
import Derived.Test.YtlfkipilgdeemaaWp
namespace Go.Proofs.Ytlfkipilgdeemaa

structure Tk where
  kind : Int
  name : List UInt8
  attrs : List Atr
  text : List UInt8
abbrev Hd := List UInt8 × List Atr
abbrev Frs := List (List Nd × Hd)
/-- an element -/
def elemN (h : Hd) (l : List Nd) : Nd := .mk 1 h.1 h.2 [] l
/-- open elements, the innermost first: what stands ahead of each, and its beginning; 'last': what stands in the innermost one -/
structure Zp where
  fr : Frs
  last : List Nd
def closeAll : Frs → List Nd → List Nd
  | [], l => l
  | (k, h) :: fs, l => closeAll fs (k ++ [elemN h l])
def Zp.tree (z : Zp) : List Nd := closeAll z.fr z.last
def closersT : List (List UInt8 × List (List UInt8)) :=
  [([112], [[98, 108, 111, 99, 107, 113, 117, 111, 116, 101], [100, 105, 118], [104, 49], [104, 50], [104, 114], [108, 105], [111, 108], [112], [112, 114, 101], [116, 97, 98, 108, 101], [117, 108]]),
   ([108, 105], [[108, 105]]), ([100, 116], [[100, 100], [100, 116]]), ([100, 100], [[100, 100], [100, 116]]), ([111, 112, 116, 105, 111, 110], [[111, 112, 116, 105, 111, 110]]),
   ([116, 100], [[116, 100], [116, 114]]), ([116, 114], [[116, 114]])]
def closesRow (o : List UInt8) : List (List UInt8) := ((closersT.find? fun p => p.1 == o).map (·.2)).getD []
/-- does a beginning close an open element? -/
def closesL (o b : List UInt8) : Bool := (closesRow o).contains b
def popWhile (nm : List UInt8) : Frs → List Nd → Zp
  | [], l => ⟨[], l⟩
  | (k, h) :: fs, l => if closesL h.1 nm then popWhile nm fs (k ++ [elemN h l]) else ⟨(k, h) :: fs, l⟩
def popTo (nm : List UInt8) : Frs → List Nd → Zp
  | [], l => ⟨[], l⟩
  | (k, h) :: fs, l => if h.1 = nm then ⟨fs, k ++ [elemN h l]⟩ else popTo nm fs (k ++ [elemN h l])
def cntN (nm : List UInt8) (fs : Frs) : Nat := fs.countP fun x => x.2.1 == nm
def beginZ (z : Zp) (nm : List UInt8) (ats : List Atr) : Zp :=
  let y := popWhile nm z.fr z.last
  if voidL nm then ⟨y.fr, y.last ++ [elemN (nm, ats) []]⟩ else ⟨(y.last, (nm, ats)) :: y.fr, []⟩
def endZ (z : Zp) (nm : List UInt8) : Zp := if cntN nm z.fr = 0 then z else popTo nm z.fr z.last
/-- a text behind nodes -/
def addText : List Nd → List UInt8 → List Nd
  | [], x => [.mk 2 [] [] x []]
  | [.mk k nm ats tx kids], x => if k = 2 then [.mk k nm ats (tx ++ x) kids] else [.mk k nm ats tx kids, .mk 2 [] [] x []]
  | n :: m :: l, x => n :: addText (m :: l) x
def charsZ (z : Zp) (tx : List UInt8) : Zp := if tx = [] then z else ⟨z.fr, addText z.last tx⟩
def remarkZ (z : Zp) (tx : List UInt8) : Zp := ⟨z.fr, z.last ++ [.mk 3 [] [] tx []]⟩
def putZ (z : Zp) (t : Tk) : Zp :=
  if t.kind = 1 then beginZ z t.name t.attrs else if t.kind = 2 then endZ z t.name else if t.kind = 3 then charsZ z t.text else if t.kind = 4 then remarkZ z t.text else z
def putsZ (z : Zp) (l : List Tk) : Zp := l.foldl putZ z
def treeL (l : List Tk) : List Nd := (putsZ ⟨[], []⟩ l).tree

theorem addText_snoc (l : List Nd) (k : Int) (nm : List UInt8) (ats : List Atr) (tx : List UInt8) (kids : List Nd) (x : List UInt8) :
    addText (l ++ [.mk k nm ats tx kids]) x = if k = 2 then l ++ [.mk k nm ats (tx ++ x) kids] else l ++ [.mk k nm ats tx kids, .mk 2 [] [] x []] := by
  induction l with
  | nil => simp only [List.nil_append, addText]
  | cons n l ih =>
    cases l with
    | nil =>
      simp only [List.cons_append, List.nil_append] at ih ⊢
      rw [addText, ih]
      split <;> rfl
    | cons m l =>
      simp only [List.cons_append] at ih ⊢
      rw [addText, ih]
      split <;> rfl

/-- a record of the store: 'text' is what the node's text shall be -/
structure Rc where
  kind : Int
  name : List UInt8
  attrs : List Atr
  text : List UInt8
  kids : List Nat
abbrev Sto := Nat → Option Rc
def Sto.set (g : Sto) (b : Nat) (r : Rc) : Sto := fun q => if q = b then some r else g q
theorem Sto.set_same (g : Sto) (b : Nat) (r : Rc) : g.set b r b = some r := by simp [Sto.set]
theorem Sto.set_other (g : Sto) {b q : Nat} (r : Rc) (h : q ≠ b) : g.set b r q = g q := by simp [Sto.set, h]

mutual
/-- record b, all of it in records from b on and below hi, is the node -/
def Tr (g : Sto) : Nd → Nat → Nat → Prop
  | .mk k nm ats tx kids, hi, b => ∃ ids, g b = some ⟨k, nm, ats, tx, ids⟩ ∧ b < hi ∧ Trs g kids hi (b + 1) ids
/-- the records ids, from lo on and below hi, one behind the other, are the nodes -/
def Trs (g : Sto) : List Nd → Nat → Nat → List Nat → Prop
  | [], hi, lo, ids => ids = [] ∧ lo ≤ hi
  | n :: l, hi, lo, ids => ∃ b bs m, ids = b :: bs ∧ lo ≤ b ∧ m ≤ hi ∧ Tr g n m b ∧ Trs g l hi m bs
end

section
variable {g g' : Sto}
theorem Tr.lt {n : Nd} {hi b : Nat} (h : Tr g n hi b) : b < hi := by
  cases n
  simp only [Tr] at h
  exact h.choose_spec.2.1
theorem Trs.lohi {l : List Nd} {hi lo : Nat} {ids : List Nat} (h : Trs g l hi lo ids) : lo ≤ hi := by
  cases l with
  | nil => simp only [Trs] at h; exact h.2
  | cons n l =>
    simp only [Trs] at h
    obtain ⟨b, bs, m, rfl, h1, h2, h3, _⟩ := h
    have := h3.lt
    omega
mutual
theorem Tr.keep : ∀ {n : Nd} {hi b : Nat}, Tr g n hi b → (∀ q, b ≤ q → q < hi → g' q = g q) → Tr g' n hi b
  | .mk _ _ _ _ kids, hi, b, h, hk => by
    simp only [Tr] at h ⊢
    obtain ⟨ids, h1, h2, h3⟩ := h
    exact ⟨ids, (hk b (Nat.le_refl _) h2).trans h1, h2, Trs.keep h3 fun q hq hq' => hk q (by omega) hq'⟩
theorem Trs.keep : ∀ {l : List Nd} {hi lo : Nat} {ids : List Nat}, Trs g l hi lo ids → (∀ q, lo ≤ q → q < hi → g' q = g q) → Trs g' l hi lo ids
  | [], _, _, _, h, _ => by simp only [Trs] at h ⊢; exact h
  | n :: l, hi, lo, ids, h, hk => by
    simp only [Trs] at h ⊢
    obtain ⟨b, bs, m, e, h1, h2, h3, h4⟩ := h
    have := h3.lt
    exact ⟨b, bs, m, e, h1, h2, Tr.keep h3 fun q hq hq' => hk q (by omega) (by omega), Trs.keep h4 fun q hq hq' => hk q (by omega) hq'⟩
end
theorem Trs.more : ∀ {l : List Nd} {hi hi' lo : Nat} {ids : List Nat}, Trs g l hi lo ids → hi ≤ hi' → Trs g l hi' lo ids
  | [], _, _, _, _, h, hh => by simp only [Trs] at h ⊢; exact ⟨h.1, by omega⟩
  | n :: l, hi, hi', lo, ids, h, hh => by
    simp only [Trs] at h ⊢
    obtain ⟨b, bs, m, e, h1, h2, h3, h4⟩ := h
    exact ⟨b, bs, m, e, h1, by omega, h3, Trs.more h4 hh⟩
theorem Tr.more {n : Nd} {hi hi' b : Nat} (h : Tr g n hi b) (hh : hi ≤ hi') : Tr g n hi' b := by
  cases n
  simp only [Tr] at h ⊢
  obtain ⟨ids, h1, h2, h3⟩ := h
  exact ⟨ids, h1, by omega, h3.more hh⟩
theorem Trs.less {l : List Nd} {hi lo lo' : Nat} {ids : List Nat} (h : Trs g l hi lo ids) (hh : lo' ≤ lo) : Trs g l hi lo' ids := by
  cases l with
  | nil => simp only [Trs] at h ⊢; exact ⟨h.1, by omega⟩
  | cons n l =>
    simp only [Trs] at h ⊢
    obtain ⟨b, bs, m, e, h1, rest⟩ := h
    exact ⟨b, bs, m, e, by omega, rest⟩
theorem Trs.append : ∀ {l l' : List Nd} {hi m lo : Nat} {ids ids' : List Nat}, Trs g l m lo ids → Trs g l' hi m ids' → Trs g (l ++ l') hi lo (ids ++ ids')
  | [], l', hi, m, lo, ids, ids', h, h' => by
    simp only [Trs] at h
    obtain ⟨rfl, h2⟩ := h
    exact h'.less h2
  | n :: l, l', hi, m, lo, ids, ids', h, h' => by
    simp only [Trs, List.cons_append] at h ⊢
    obtain ⟨b, bs, m', rfl, h1, h2, h3, h4⟩ := h
    have := h'.lohi
    exact ⟨b, bs ++ ids', m', rfl, h1, by omega, h3, Trs.append h4 h'⟩
theorem Trs.snoc {l : List Nd} {n : Nd} {hi b lo : Nat} {ids : List Nat} (h : Trs g l b lo ids) (h' : Tr g n hi b) : Trs g (l ++ [n]) hi lo (ids ++ [b]) := by
  refine Trs.append h ?_
  simp only [Trs]
  exact ⟨b, [], hi, rfl, Nat.le_refl _, Nat.le_refl _, h', rfl, Nat.le_refl _⟩
theorem Trs.snoc_inv : ∀ {l : List Nd} {n : Nd} {hi lo : Nat} {ids : List Nat}, Trs g (l ++ [n]) hi lo ids → ∃ cl b, ids = cl ++ [b] ∧ Trs g l b lo cl ∧ Tr g n hi b
  | [], n, hi, lo, ids, h => by
    simp only [List.nil_append, Trs] at h
    obtain ⟨b, bs, m, rfl, h1, h2, h3, rfl, _⟩ := h
    exact ⟨[], b, rfl, by simp only [Trs]; exact ⟨trivial, h1⟩, h3.more h2⟩
  | x :: l, n, hi, lo, ids, h => by
    simp only [List.cons_append, Trs] at h
    obtain ⟨b, bs, m, rfl, h1, h2, h3, h4⟩ := h
    obtain ⟨cl, b', rfl, h5, h6⟩ := Trs.snoc_inv h4
    refine ⟨b :: cl, b', rfl, ?_, h6⟩
    simp only [Trs]
    exact ⟨b, cl, m, rfl, h1, h5.lohi, h3, h5⟩
theorem Trs.length : ∀ {l : List Nd} {hi lo : Nat} {ids : List Nat}, Trs g l hi lo ids → ids.length = l.length
  | [], _, _, _, h => by simp only [Trs] at h; rw [h.1]; rfl
  | n :: l, hi, lo, ids, h => by
    simp only [Trs] at h
    obtain ⟨b, bs, m, rfl, _, _, _, h4⟩ := h
    rw [List.length_cons, List.length_cons, Trs.length h4]
end

/-- the records at the place where nodes go -/
def plIds (g : Sto) (outs : List Nat) : List Nat → List Nat
  | [] => outs
  | b :: _ => ((g b).map (·.kids)).getD []
def plLo : List Nat → Nat
  | [] => 0
  | b :: _ => b + 1
/-- the open records, innermost first, are the zipper's -/
def Sp (g : Sto) (outs : List Nat) : List Nat → Frs → Prop
  | [], [] => True
  | b :: bs, (k, h) :: fs => (∃ ids, g b = some ⟨1, h.1, h.2, [], ids⟩) ∧ (∃ cl, plIds g outs bs = cl ++ [b] ∧ Trs g k b (plLo bs) cl) ∧ Sp g outs bs fs
  | _, _ => False
/-- THE STORE g, ITS OUTER RECORDS AND ITS OPEN ONES ARE THE ZIPPER z; all of it below hi -/
def ZR (g : Sto) (outs opens : List Nat) (hi : Nat) (z : Zp) : Prop := Sp g outs opens z.fr ∧ Trs g z.last hi (plLo opens) (plIds g outs opens)

section
variable {g g' : Sto} {outs opens : List Nat} {hi : Nat} {z : Zp}
theorem Sp.keep {lim : Nat} (hk : ∀ q, q < lim → g' q = g q) : ∀ {opens : List Nat} {fs : Frs}, plLo opens ≤ lim → Sp g outs opens fs → Sp g' outs opens fs ∧ plIds g' outs opens = plIds g outs opens
  | [], [], _, _ => ⟨trivial, rfl⟩
  | [], _ :: _, _, h => absurd h (by simp [Sp])
  | _ :: _, [], _, h => absurd h (by simp [Sp])
  | b :: bs, (k, h) :: fs, hlo, hs => by
    simp only [Sp] at hs ⊢
    obtain ⟨⟨ids, h1⟩, ⟨cl, h2, h3⟩, h4⟩ := hs
    have hb : b < lim := by simp only [plLo] at hlo; omega
    have h5 := h3.lohi
    obtain ⟨h6, h7⟩ := Sp.keep hk (by omega) h4
    have h8 : g' b = g b := hk b hb
    exact ⟨⟨⟨ids, h8.trans h1⟩, ⟨cl, h7.trans h2, h3.keep fun q _ hq => hk q (by omega)⟩, h6⟩, by simp only [plIds, h8]⟩
theorem Sp.len : ∀ {opens : List Nat} {fs : Frs}, Sp g outs opens fs → opens.length = fs.length
  | [], [], _ => rfl
  | [], _ :: _, h => absurd h (by simp [Sp])
  | _ :: _, [], h => absurd h (by simp [Sp])
  | b :: bs, (k, h) :: fs, hs => by
    simp only [Sp] at hs
    rw [List.length_cons, List.length_cons, Sp.len hs.2.2]

/-- the record b stands at the place -/
def addKid (g : Sto) : List Nat → Nat → Sto
  | [], _ => g
  | p :: _, b => fun q => if q = p then (g p).map fun r => { r with kids := r.kids ++ [b] } else g q
def addOut (outs : List Nat) : List Nat → Nat → List Nat
  | [], b => outs ++ [b]
  | _ :: _, _ => outs
theorem ZR.add (h : ZR g outs opens hi z) {b : Nat} (hb : hi ≤ b) (k : Int) (nm : List UInt8) (ats : List Atr) (tx : List UInt8) :
    ZR (addKid (g.set b ⟨k, nm, ats, tx, []⟩) opens b) (addOut outs opens b) opens (b + 1) ⟨z.fr, z.last ++ [.mk k nm ats tx []]⟩ ∧
    plIds (addKid (g.set b ⟨k, nm, ats, tx, []⟩) opens b) (addOut outs opens b) opens = plIds g outs opens ++ [b] := by
  obtain ⟨h1, h2⟩ := h
  have h3 := h2.lohi
  have hleaf : Tr (g.set b ⟨k, nm, ats, tx, []⟩) (.mk k nm ats tx []) (b + 1) b := by
    simp only [Tr]
    exact ⟨[], Sto.set_same _ _ _, by omega, by simp only [Trs]; exact ⟨trivial, Nat.le_refl _⟩⟩
  have hlast : Trs (g.set b ⟨k, nm, ats, tx, []⟩) z.last b (plLo opens) (plIds g outs opens) := (h2.more hb).keep (fun q hq hq' => Sto.set_other _ _ (by omega)) |> fun x => x
  obtain ⟨fr, last⟩ := z
  match opens, fr, h1 with
  | [], [], _ =>
    simp only [addKid, addOut, plIds, plLo] at hlast ⊢
    exact ⟨⟨trivial, hlast.snoc hleaf⟩, trivial⟩
  | p :: bs, (k', h') :: fs, hs =>
    simp only [plLo] at h2 h3 hlast
    simp only [Sp] at hs
    obtain ⟨⟨ids, e1⟩, ⟨cl, e2, e3⟩, e4⟩ := hs
    have hp : p ≠ b := by omega
    have hgp : g.set b ⟨k, nm, ats, tx, []⟩ p = some ⟨1, h'.1, h'.2, [], ids⟩ := (Sto.set_other _ _ hp).trans e1
    have hkeep : ∀ q, q < p → addKid (g.set b ⟨k, nm, ats, tx, []⟩) (p :: bs) b q = g q := fun q hq => by
      simp only [addKid, if_neg (show q ≠ p by omega)]
      exact Sto.set_other _ _ (by omega)
    have hnew : addKid (g.set b ⟨k, nm, ats, tx, []⟩) (p :: bs) b p = some ⟨1, h'.1, h'.2, [], ids ++ [b]⟩ := by
      simp only [addKid, if_pos, hgp, Option.map_some]
    have hids : plIds g outs (p :: bs) = ids := by simp only [plIds, e1, Option.map_some, Option.getD_some]
    have hids' : plIds (addKid (g.set b ⟨k, nm, ats, tx, []⟩) (p :: bs) b) (addOut outs (p :: bs) b) (p :: bs) = ids ++ [b] := by simp only [plIds, hnew, Option.map_some, Option.getD_some]
    have e5 := e3.lohi
    obtain ⟨e6, e7⟩ := Sp.keep hkeep e5 e4
    have hafter : ∀ q, p + 1 ≤ q → addKid (g.set b ⟨k, nm, ats, tx, []⟩) (p :: bs) b q = g.set b ⟨k, nm, ats, tx, []⟩ q := fun q hq => by simp only [addKid, if_neg (show q ≠ p by omega)]
    refine ⟨⟨?_, ?_⟩, by rw [hids', hids]⟩
    · simp only [Sp]
      exact ⟨⟨_, hnew⟩, ⟨cl, e7.trans e2, e3.keep fun q _ hq => hkeep q hq⟩, e6⟩
    · rw [hids', ← hids]
      exact Trs.snoc (hlast.keep fun q hq _ => hafter q hq) (hleaf.keep fun q hq _ => hafter q (by omega))
theorem ZR.openN {fr : Frs} {l : List Nd} {h : Hd} (hz : ZR g outs opens hi ⟨fr, l ++ [elemN h []]⟩) {cl : List Nat} {b : Nat} (hb : plIds g outs opens = cl ++ [b]) : ZR g outs (b :: opens) hi ⟨(l, h) :: fr, []⟩ := by
  obtain ⟨h1, h2⟩ := hz
  obtain ⟨cl', b', e1, e2, e3⟩ := h2.snoc_inv
  rw [hb] at e1
  obtain ⟨rfl, e4⟩ := List.append_inj' e1 rfl
  injection e4 with e4
  subst e4
  simp only [elemN, Tr] at e3
  obtain ⟨ids, e5, e6, e7⟩ := e3
  simp only [Trs] at e7
  obtain ⟨rfl, e8⟩ := e7
  refine ⟨?_, ?_⟩
  · simp only [Sp]
    exact ⟨⟨_, e5⟩, ⟨cl, hb, e2⟩, h1⟩
  · simp only [plIds, plLo, e5, Option.map_some, Option.getD_some, Trs]
    exact ⟨trivial, e6⟩
theorem ZR.shut {b : Nat} {bs : List Nat} {k : List Nd} {h : Hd} {fs : Frs} {l : List Nd} (hz : ZR g outs (b :: bs) hi ⟨(k, h) :: fs, l⟩) : ZR g outs bs hi ⟨fs, k ++ [elemN h l]⟩ := by
  obtain ⟨h1, h2⟩ := hz
  simp only [Sp] at h1
  obtain ⟨⟨ids, e1⟩, ⟨cl, e2, e3⟩, e4⟩ := h1
  refine ⟨e4, ?_⟩
  rw [e2]
  refine e3.snoc ?_
  simp only [plIds, plLo, e1, Option.map_some, Option.getD_some] at h2
  have := h2.lohi
  simp only [elemN, Tr]
  exact ⟨ids, e1, by omega, h2⟩
/-- the last record's text grows -/
def addTx (g : Sto) (t : Nat) (x : List UInt8) : Sto := fun q => if q = t then (g t).map fun r => { r with text := r.text ++ x } else g q
theorem ZR.lastIs {fr : Frs} {l : List Nd} {k : Int} {nm : List UInt8} {ats : List Atr} {tx : List UInt8} {kids : List Nd} (hz : ZR g outs opens hi ⟨fr, l ++ [.mk k nm ats tx kids]⟩) :
    ∃ cl t ids, plIds g outs opens = cl ++ [t] ∧ g t = some ⟨k, nm, ats, tx, ids⟩ ∧ ∀ x, ZR (addTx g t x) outs opens hi ⟨fr, l ++ [.mk k nm ats (tx ++ x) kids]⟩ := by
  obtain ⟨h1, h2⟩ := hz
  obtain ⟨cl, t, e1, e2, e3⟩ := h2.snoc_inv
  simp only [Tr] at e3
  obtain ⟨ids, e4, e5, e6⟩ := e3
  refine ⟨cl, t, ids, e1, e4, fun x => ?_⟩
  have hlo := e2.lohi
  have hk : ∀ q, q ≠ t → addTx g t x q = g q := fun q hq => by simp only [addTx, if_neg hq]
  have hs : addTx g t x t = some ⟨k, nm, ats, tx ++ x, ids⟩ := by simp only [addTx, if_pos, e4, Option.map_some]
  obtain ⟨e7, e8⟩ := Sp.keep (lim := t) (fun q hq => hk q (by omega)) hlo h1
  refine ⟨e7, ?_⟩
  rw [e8, e1]
  refine Trs.snoc (e2.keep fun q _ hq => hk q (by omega)) ?_
  simp only [Tr]
  exact ⟨ids, hs, e5, e6.keep fun q hq _ => hk q (by omega)⟩
theorem ZR.more {hi' : Nat} (h : ZR g outs opens hi z) (hh : hi ≤ hi') : ZR g outs opens hi' z := ⟨h.1, h.2.more hh⟩
theorem ZR.tree (h : ZR g outs opens hi z) : Trs g z.tree hi 0 outs := by
  obtain ⟨fr, last⟩ := z
  induction fr generalizing opens last with
  | nil =>
    cases opens with
    | nil => exact h.2
    | cons b bs => exact absurd h.1 (by simp [Sp])
  | cons f fs ih =>
    cases opens with
    | nil => exact absurd h.1 (by simp [Sp])
    | cons b bs =>
      obtain ⟨k, h'⟩ := f
      exact ih (opens := bs) (last := k ++ [elemN h' last]) h.shut
theorem ZR.start : ZR (fun _ => none) [] [] hi ⟨[], []⟩ := ⟨trivial, by simp only [plIds, plLo, Trs]; exact ⟨trivial, Nat.zero_le _⟩⟩
end
end Go.Proofs.Ytlfkipilgdeemaa
