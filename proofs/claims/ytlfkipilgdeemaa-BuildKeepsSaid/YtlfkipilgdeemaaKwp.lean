/- Plain: what a tree weighs. -/
import Derived.Test.YtlfkipilgdeemaaKs
namespace Go.Proofs.Ytlfkipilgdeemaa
open Go.RowKit Go.Maps Go.WideMaps
attribute [local go_sem ↓] Go.wp_at_zero Go.wp_at_succ

mutual
def wg1 : Nd → Nat
  | .mk _ _ ats _ kids => 1 + ats.length + wgL kids
def wgL : List Nd → Nat
  | [] => 0
  | n :: l => wg1 n + wgL l
end
theorem wgL_append (l m : List Nd) : wgL (l ++ m) = wgL l + wgL m := by
  induction l with
  | nil => simp [wgL]
  | cons n l ih => simp only [List.cons_append, wgL, ih]; omega
theorem wg1_eq (n : Nd) : wg1 n = 1 + n.attrs.length + wgL n.kids := by cases n; simp only [wg1, Nd.attrs, Nd.kids]
theorem wgL_take {l : List Nd} {k : Nat} (hk : k < l.length) : wgL (l.take (k + 1)) = wgL (l.take k) + (1 + l[k].attrs.length + wgL l[k].kids) := by
  rw [List.take_succ_eq_append_getElem hk, wgL_append, ← wg1_eq]
  simp only [wgL, Nat.add_zero]
/-- what a token weighs -/
def tkWt (t : Tk) : Nat := if t.kind = 1 then 1 + t.attrs.length else if t.kind = 3 ∨ t.kind = 4 then 1 else 0
def tksWt (l : List Tk) : Nat := (l.map tkWt).sum
theorem wgL_sum : Sum wgL (fun h => 1 + h.2.length) := ⟨rfl, wgL_append, fun h l => by simp only [wgL, elemN, wg1]; omega⟩
theorem putsZ_wg (l : List Tk) : ∀ z : Zp, wgL (putsZ z l).tree ≤ wgL z.tree + tksWt l := by
  induction l with
  | nil => intro z; simp [putsZ, tksWt]
  | cons t l ih =>
    intro z
    have h1 := ih (putZ z t)
    have h2 := putZ_sum wgL_sum (a := 1) (fun _ _ _ _ _ => rfl) (fun _ => by simp [wgL, wg1]) (fun _ => by simp [wgL, wg1]) z t
    have h3 : tksWt (t :: l) = tkWt t + tksWt l := by simp [tksWt]
    simp only [putsZ, List.foldl_cons] at h1 ⊢
    have h4 : (if t.kind = 1 then 1 + (t.name, t.attrs).2.length else if t.kind = 3 ∨ t.kind = 4 then 1 else 0) = tkWt t := rfl
    rw [h4] at h2
    omega
theorem weighs_law (l : List Tk) : wgL (treeL l) ≤ tksWt l := by
  have := putsZ_wg l ⟨[], []⟩
  have h0 : wgL (Zp.tree ⟨[], []⟩) = 0 := rfl
  unfold treeL
  omega
theorem tkWt_take {l : List Tk} {k : Nat} (hk : k < l.length) : tksWt (l.take (k + 1)) = tksWt (l.take k) + tkWt l[k] := by
  rw [List.take_succ_eq_append_getElem hk, tksWt, List.map_append, List.sum_append]
  simp [tksWt]

theorem wgL_len (l : List Nd) : l.length ≤ wgL l := by
  induction l with
  | nil => simp
  | cons n l ih => rw [List.length_cons, wgL, wg1_eq]; omega
theorem wgL_at {l : List Nd} {k : Nat} (hk : k < l.length) : 1 + l[k].attrs.length + wgL l[k].kids ≤ wgL l := by
  have h1 := wgL_take hk
  have h2 := wgL_append (l.take (k + 1)) (l.drop (k + 1))
  rw [List.take_append_drop] at h2
  omega

theorem tksWt_le (l : List Tk) (h : ∀ t ∈ l, TkOk t) : tksWt l ≤ 1001 * l.length := by
  induction l with
  | nil => simp [tksWt]
  | cons t l ih =>
    have h1 := ih (fun t ht => h t (by simp [ht]))
    have h2 := (h t (by simp)).2.2.2
    have h3 : tkWt t ≤ 1001 := by unfold tkWt; split <;> (try split) <;> omega
    have h4 : tksWt (t :: l) = tkWt t + tksWt l := by simp [tksWt]
    rw [h4, List.length_cons]
    omega
theorem cut7_ok {l : List Tk} (h : ∀ t ∈ l, KindOk t.kind) : ∀ t ∈ cut7 l, TkOk t := by
  intro t ht
  obtain ⟨t', h1, rfl⟩ := List.mem_map.1 ht
  exact cutT_ok (h t' (List.mem_of_mem_take h1))

end Go.Proofs.Ytlfkipilgdeemaa
