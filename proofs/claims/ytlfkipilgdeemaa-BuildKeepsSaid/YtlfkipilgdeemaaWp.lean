/- Plain laws on a tree's text (no program in sight): its ends, the text of nodes, how long it is. -/
import Derived.Test.YtlfkipilgdeemaaNd
namespace Go.Proofs.Ytlfkipilgdeemaa

def voidL (l : List UInt8) : Bool := l == [98, 114] || (l == [104, 114] || (l == [105, 109, 103] || (l == [105, 110, 112, 117, 116] || l == [119, 98, 114])))
def rawL (l : List UInt8) : Bool := l == [115, 99, 114, 105, 112, 116] || l == [115, 116, 121, 108, 101]

/-- an attribute within a tag -/
def atrL (a : Atr) : List UInt8 := [32] ++ (a.1 ++ ([61, 34] ++ (esc true a.2 ++ [34])))
/-- what stands ahead of an element's kids -/
def opL (n : Nd) : List UInt8 := if n.kind = 1 then [60] ++ (n.name ++ (n.attrs.flatMap atrL ++ [62])) else []
/-- what stands behind them -/
def clL (n : Nd) : List UInt8 := if n.kind = 1 ∧ voidL n.name = false then [60, 47] ++ (n.name ++ [62]) else []
mutual
/-- a node's text -/
def oneL (raw : Bool) : Nd → List UInt8
  | .mk k nm ats tx kids =>
    if k = 1 then opL (.mk k nm ats tx kids) ++ (if voidL nm then [] else kidsL (rawL nm) kids ++ clL (.mk k nm ats tx kids))
    else if k = 2 then (if raw then tx else esc false tx)
    else if k = 3 then [60, 33, 45, 45] ++ (tx ++ [45, 45, 62]) else []
def kidsL (raw : Bool) : List Nd → List UInt8
  | [] => []
  | n :: l => oneL raw n ++ kidsL raw l
end
/-- nodes' text -/
def textL (l : List Nd) : List UInt8 := kidsL false l
mutual
/-- all texts -/
def plain1 : Nd → List UInt8
  | .mk k _ _ tx kids => (if k = 2 then tx else []) ++ plainL kids
def plainL : List Nd → List UInt8
  | [] => []
  | n :: l => plain1 n ++ plainL l
end
mutual
/-- what a walk over nodes costs -/
def wt1 : Nd → Nat
  | .mk _ _ _ _ kids => 2 + wtL kids
def wtL : List Nd → Nat
  | [] => 0
  | n :: l => wt1 n + wtL l
end
theorem kidsL_append (raw : Bool) (l m : List Nd) : kidsL raw (l ++ m) = kidsL raw l ++ kidsL raw m := by
  induction l with
  | nil => simp [kidsL]
  | cons n l ih => simp only [List.cons_append, kidsL, ih, List.append_assoc]
theorem plainL_append (l m : List Nd) : plainL (l ++ m) = plainL l ++ plainL m := by
  induction l with
  | nil => simp [plainL]
  | cons n l ih => simp only [List.cons_append, plainL, ih, List.append_assoc]
theorem wt1_eq (n : Nd) : wt1 n = 2 + wtL n.kids := by cases n; simp only [wt1, Nd.kids]
theorem plain1_eq (n : Nd) : plain1 n = (if n.kind = 2 then n.text else []) ++ plainL n.kids := by cases n; simp only [plain1, Nd.kids, Nd.kind, Nd.text]; rfl
theorem oneL_void (raw : Bool) (n : Nd) (h : n.kind = 1) (hv : voidL n.name = true) : oneL raw n = opL n := by
  cases n; simp only [Nd.kind, Nd.name] at h hv; simp [oneL, h, hv]
theorem oneL_elem (raw : Bool) (n : Nd) (h : n.kind = 1) (hv : voidL n.name = false) : oneL raw n = opL n ++ (kidsL (rawL n.name) n.kids ++ clL n) := by
  cases n; simp only [Nd.kind, Nd.name] at h hv; simp [oneL, h, hv, Nd.name, Nd.kids]
theorem oneL_raw (n : Nd) (h : n.kind = 2) : oneL true n = n.text := by
  cases n; simp only [Nd.kind] at h; simp [oneL, h, Nd.text]
theorem oneL_text (n : Nd) (h : n.kind = 2) : oneL false n = esc false n.text := by
  cases n; simp only [Nd.kind] at h; simp [oneL, h, Nd.text]
theorem oneL_comment (raw : Bool) (n : Nd) (h : n.kind = 3) : oneL raw n = [60, 33, 45, 45] ++ (n.text ++ [45, 45, 62]) := by
  cases n; simp only [Nd.kind] at h; simp [oneL, h, Nd.text]
theorem oneL_other (raw : Bool) (n : Nd) (h1 : n.kind ≠ 1) (h2 : n.kind ≠ 2) (h3 : n.kind ≠ 3) : oneL raw n = [] := by
  cases n; simp only [Nd.kind] at h1 h2 h3; simp [oneL, h1, h2, h3]
end Go.Proofs.Ytlfkipilgdeemaa
