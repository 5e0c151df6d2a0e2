/- Plain: strainerref07, as functions of nodes and a path; its tree is the Builder's. -/
import Derived.Test.YtlfkipilgdeemaaKq
namespace Go.Proofs.Ytlfkipilgdeemaa

def dNd : Nd := .mk 0 [] [] [] []
/-- the names of open elements, the outermost first -/
def rOpen : List Nd → List Nat → List (List UInt8)
  | _, [] => []
  | l, i :: p => (l.getD i dNd).name :: rOpen (l.getD i dNd).kids p
/-- how many nodes stand at the end of a path -/
def rCount : List Nd → List Nat → Nat
  | l, [] => l.length
  | l, i :: p => rCount (l.getD i dNd).kids p
def setKids (n : Nd) (l : List Nd) : Nd := .mk n.kind n.name n.attrs n.text l
/-- nodes, where one more stands at their end -/
def rEnd (l : List Nd) (n : Nd) : List Nd :=
  match l.getLast? with
  | some m => if n.kind = 2 ∧ m.kind = 2 then l.dropLast ++ [.mk m.kind m.name m.attrs (m.text ++ n.text) m.kids] else if n.kind = 2 ∧ n.text = [] then l else l ++ [n]
  | none => if n.kind = 2 ∧ n.text = [] then l else l ++ [n]
def rPut : List Nd → List Nat → Nd → List Nd
  | l, [], n => rEnd l n
  | l, i :: p, n => l.set i (setKids (l.getD i dNd) (rPut (l.getD i dNd).kids p n))
structure RB where
  L : List Nd
  P : List Nat
/-- how many elements stay open: o, the innermost first -/
def rStay (nm : List UInt8) : List (List UInt8) → Nat
  | [] => 0
  | a :: o => if closesL a nm then rStay nm o else o.length + 1
/-- where the innermost one of a name stands -/
def rFind (nm : List UInt8) : List (List UInt8) → Option Nat
  | [] => none
  | a :: o => if a = nm then some o.length else rFind nm o
def rPutT (b : RB) (t : Tk) : RB :=
  let o := (rOpen b.L b.P).reverse
  if t.kind = 1 then
    let p := b.P.take (rStay t.name o)
    ⟨rPut b.L p (.mk 1 t.name t.attrs [] []), p ++ (if voidL t.name then [] else [rCount b.L p])⟩
  else if t.kind = 2 then match rFind t.name o with
    | some i => ⟨b.L, b.P.take i⟩
    | none => b
  else if t.kind = 3 then ⟨rPut b.L b.P (.mk 2 [] [] t.text []), b.P⟩
  else if t.kind = 4 then ⟨rPut b.L b.P (.mk 3 [] [] t.text []), b.P⟩
  else b

/-- frames, the outermost first -/
def treeO : Frs → List Nd → List Nd
  | [], l => l
  | (k, h) :: fs, l => k ++ [elemN h (treeO fs l)]
theorem treeO_snoc : ∀ (fs : Frs) (k : List Nd) (h : Hd) (l : List Nd), treeO (fs ++ [(k, h)]) l = treeO fs (k ++ [elemN h l])
  | [], _, _, _ => rfl
  | (k', h') :: fs, k, h, l => by simp only [List.cons_append, treeO, treeO_snoc fs]
theorem closeAll_O : ∀ (fs : Frs) (l : List Nd), closeAll fs l = treeO fs.reverse l
  | [], _ => rfl
  | (k, h) :: fs, l => by rw [closeAll, closeAll_O fs, List.reverse_cons, treeO_snoc]
def pathO (fs : Frs) : List Nat := fs.map fun f => f.1.length
theorem getD_last (k : List Nd) (n : Nd) : (k ++ [n]).getD k.length dNd = n := by simp
theorem rOpen_O : ∀ (fs : Frs) (l : List Nd), rOpen (treeO fs l) (pathO fs) = fs.map fun f => f.2.1
  | [], _ => rfl
  | (k, h) :: fs, l => by
    simp only [treeO, pathO, List.map_cons, rOpen, getD_last]
    have := rOpen_O fs l
    simp only [pathO] at this
    simp only [elemN, Nd.name, Nd.kids, this]
theorem rCount_O : ∀ (fs : Frs) (l : List Nd), rCount (treeO fs l) (pathO fs) = l.length
  | [], _ => rfl
  | (k, h) :: fs, l => by
    simp only [treeO, pathO, List.map_cons, rCount, getD_last]
    have := rCount_O fs l
    simp only [pathO] at this
    simp only [elemN, Nd.kids, this]
theorem rPut_O (n : Nd) : ∀ (fs : Frs) (l : List Nd), rPut (treeO fs l) (pathO fs) n = treeO fs (rEnd l n)
  | [], _ => rfl
  | (k, h) :: fs, l => by
    simp only [treeO, pathO, List.map_cons, rPut, getD_last]
    have := rPut_O n fs l
    simp only [pathO] at this
    simp only [elemN, Nd.kids, this, setKids, Nd.kind, Nd.name, Nd.attrs, Nd.text]
    rw [List.set_append_right _ _ (Nat.le_refl _), Nat.sub_self]
    rfl
theorem rEnd_elem (l : List Nd) (n : Nd) (h : n.kind ≠ 2) : rEnd l n = l ++ [n] := by
  unfold rEnd
  split <;> simp [h]
theorem rEnd_text (l : List Nd) (x : List UInt8) : rEnd l (.mk 2 [] [] x []) = if x = [] then l else addText l x := by
  rcases List.eq_nil_or_concat l with rfl | ⟨l', m, rfl⟩
  · simp [rEnd, addText, Nd.kind, Nd.text]
  · obtain ⟨k, nm, ats, tx, kids⟩ := m
    rw [List.concat_eq_append, addText_snoc]
    unfold rEnd
    simp only [List.getLast?_append, List.getLast?_singleton, Option.some_or, Nd.kind, Nd.text, Nd.name, Nd.attrs, Nd.kids, List.dropLast_concat, true_and]
    by_cases hk : k = 2
    · rw [if_pos hk, if_pos hk]
      split
      · rename_i hx; subst hx; rw [List.append_nil]
      · rfl
    · rw [if_neg hk, if_neg hk]
      split
      · rfl
      · simp
/-- the reference's state is the zipper -/
def RZ (b : RB) (z : Zp) : Prop := b.L = z.tree ∧ b.P = pathO z.fr.reverse
theorem rStay_is (nm : List UInt8) : ∀ (fs : Frs) (l : List Nd), (popWhile nm fs l).fr = fs.drop (fs.length - rStay nm (fs.map fun f => f.2.1)) ∧ rStay nm (fs.map fun f => f.2.1) ≤ fs.length ∧ (popWhile nm fs l).fr.length = rStay nm (fs.map fun f => f.2.1)
  | [], l => by simp [popWhile, rStay]
  | (k, h) :: fs, l => by
    obtain ⟨h1, h2, h3⟩ := rStay_is nm fs (k ++ [elemN h l])
    simp only [List.map_cons, rStay, popWhile]
    split
    · refine ⟨?_, by rw [List.length_cons]; omega, h3⟩
      rw [h1, List.length_cons, show fs.length + 1 - rStay nm (fs.map fun f => f.2.1) = (fs.length - rStay nm (fs.map fun f => f.2.1)) + 1 by omega, List.drop_succ_cons]
    · simp
theorem rFind_is (nm : List UInt8) : ∀ (fs : Frs) (l : List Nd), match rFind nm (fs.map fun f => f.2.1) with
    | some i => i ≤ fs.length ∧ (popTo nm fs l).fr = fs.drop (fs.length - i) ∧ cntN nm fs ≠ 0
    | none => cntN nm fs = 0
  | [], l => rfl
  | (k, h) :: fs, l => by
    have ih := rFind_is nm fs (k ++ [elemN h l])
    simp only [List.map_cons, rFind, popTo]
    by_cases hn : h.1 = nm
    · rw [if_pos hn, if_pos hn]
      simp only [List.length_map, List.length_cons]
      refine ⟨by omega, ?_, ?_⟩
      · rw [show fs.length + 1 - fs.length = 1 by omega]; rfl
      · simp only [cntN, List.countP_cons]
        simp [hn]
    · rw [if_neg hn, if_neg hn]
      have hc : cntN nm ((k, h) :: fs) = cntN nm fs := by
        simp only [cntN, List.countP_cons]
        simp [hn]
      rw [hc]
      split at ih
      · rename_i i heq
        obtain ⟨h1, h2, h3⟩ := ih
        refine ⟨by rw [List.length_cons]; omega, ?_, h3⟩
        rw [h2, List.length_cons, show fs.length + 1 - i = (fs.length - i) + 1 by omega, List.drop_succ_cons]
      · exact ih
theorem pathO_take (fs : Frs) (n : Nat) : (pathO fs.reverse).take n = pathO (fs.drop (fs.length - n)).reverse := by
  simp only [pathO, ← List.map_take]
  congr 1
  rw [List.take_reverse, List.reverse_drop]
theorem RZ.put {b : RB} {z : Zp} (h : RZ b z) (t : Tk) : RZ (rPutT b t) (putZ z t) := by
  obtain ⟨L, P⟩ := b
  obtain ⟨h1, h2⟩ := h
  simp only at h1 h2
  subst h1 h2
  have hL : z.tree = treeO z.fr.reverse z.last := closeAll_O z.fr z.last
  have ho : (rOpen z.tree (pathO z.fr.reverse)).reverse = z.fr.map fun f => f.2.1 := by
    rw [hL, rOpen_O, List.map_reverse, List.reverse_reverse]
  unfold rPutT putZ
  simp only [ho]
  by_cases k1 : t.kind = 1
  · rw [if_pos k1, if_pos k1]
    obtain ⟨e1, e2, e3⟩ := rStay_is t.name z.fr z.last
    have hp : (pathO z.fr.reverse).take (rStay t.name (z.fr.map fun f => f.2.1)) = pathO (popWhile t.name z.fr z.last).fr.reverse := by rw [pathO_take, ← e1]
    have hT : z.tree = treeO (popWhile t.name z.fr z.last).fr.reverse (popWhile t.name z.fr z.last).last := by
      rw [← closeAll_O]
      exact (popWhile_tree t.name z.fr z.last).symm
    rw [hp, hT, rPut_O, rCount_O, rEnd_elem _ _ (by simp [Nd.kind])]
    unfold beginZ
    simp only
    by_cases hv : voidL t.name = true
    · rw [if_pos hv, if_pos hv]
      exact ⟨(closeAll_O _ _).symm, by simp⟩
    · rw [if_neg hv, if_neg hv]
      refine ⟨?_, by simp [pathO]⟩
      show _ = closeAll _ _
      rw [closeAll_O, List.reverse_cons, treeO_snoc]
      rfl
  · rw [if_neg k1, if_neg k1]
    by_cases k2 : t.kind = 2
    · rw [if_pos k2, if_pos k2]
      have hf := rFind_is t.name z.fr z.last
      unfold endZ
      split at hf
      · rename_i i heq
        obtain ⟨f1, f2, f3⟩ := hf
        rw [if_neg f3]
        refine ⟨?_, ?_⟩
        · exact (popTo_tree t.name z.fr z.last).symm
        · simp only
          rw [pathO_take, f2]
      · rename_i heq
        rw [if_pos hf]
        exact ⟨rfl, rfl⟩
    · rw [if_neg k2, if_neg k2]
      by_cases k3 : t.kind = 3
      · rw [if_pos k3, if_pos k3, hL, rPut_O, rEnd_text]
        unfold charsZ
        by_cases hx : t.text = []
        · rw [if_pos hx, if_pos hx]
          exact ⟨hL.symm, rfl⟩
        · rw [if_neg hx, if_neg hx]
          exact ⟨(closeAll_O _ _).symm, rfl⟩
      · rw [if_neg k3, if_neg k3]
        by_cases k4 : t.kind = 4
        · rw [if_pos k4, if_pos k4, hL, rPut_O, rEnd_elem _ _ (by simp [Nd.kind])]
          exact ⟨(closeAll_O _ _).symm, rfl⟩
        · rw [if_neg k4, if_neg k4]
          exact ⟨rfl, rfl⟩
/-- the reference's tree -/
def rTree (l : List Tk) : RB := l.foldl rPutT ⟨[], []⟩
theorem rTree_is (l : List Tk) : (rTree l).L = treeL l := by
  have h : ∀ (l : List Tk) (b : RB) (z : Zp), RZ b z → RZ (l.foldl rPutT b) (putsZ z l) := by
    intro l
    induction l with
    | nil => intro b z h; exact h
    | cons t l ih => intro b z h; exact ih _ _ (h.put t)
  exact (h l ⟨[], []⟩ ⟨[], []⟩ ⟨rfl, rfl⟩).1
end Go.Proofs.Ytlfkipilgdeemaa
