/- Plain: bounds of the reference's state. -/
import Derived.Test.YtlfkipilgdeemaaKy
namespace Go.Proofs.Ytlfkipilgdeemaa

theorem PathOk_take : ∀ (P : List Nat) (l : List Nd) (n : Nat), PathOk l P → PathOk l (P.take n)
  | [], l, n, _ => by simp [PathOk]
  | i :: p, l, 0, _ => by simp [PathOk]
  | i :: p, l, n + 1, h => by
    simp only [List.take_succ_cons, PathOk] at h ⊢
    exact ⟨h.1, PathOk_take p _ n h.2⟩
theorem PathOk_O : ∀ (fs : Frs) (l : List Nd), PathOk (treeO fs l) (pathO fs)
  | [], _ => trivial
  | (k, h) :: fs, l => by
    simp only [treeO, pathO, List.map_cons, PathOk, getD_last, elemN, Nd.kids]
    exact ⟨by simp, PathOk_O fs l⟩
mutual
theorem txB1_more {B B' : Nat} (hB : B ≤ B') : ∀ {n : Nd}, txB1 B n → txB1 B' n
  | .mk _ _ _ _ kids, h => by
    simp only [txB1] at h ⊢
    exact ⟨by omega, txBL_more hB h.2⟩
theorem txBL_more {B B' : Nat} (hB : B ≤ B') : ∀ {l : List Nd}, txBL B l → txBL B' l
  | [], _ => by simp only [txBL]
  | n :: l, h => by
    simp only [txBL] at h ⊢
    exact ⟨txB1_more hB h.1, txBL_more hB h.2⟩
end
theorem txBL_iff {B : Nat} {l : List Nd} : txBL B l ↔ ∀ n ∈ l, txB1 B n := by
  induction l with
  | nil => simp [txBL]
  | cons n l ih => simp only [txBL, ih, List.mem_cons, forall_eq_or_imp]
theorem txBL_set {B : Nat} {l : List Nd} {i : Nat} {n : Nd} (h : txBL B l) (hn : txB1 B n) : txBL B (l.set i n) := by
  rw [txBL_iff] at h ⊢
  intro m hm
  rcases List.mem_or_eq_of_mem_set hm with h1 | h1
  · exact h m h1
  · rw [h1]; exact hn
theorem rEnd_tx {B c : Nat} {l : List Nd} {k : Int} {nm tx : List UInt8} {ats : List Atr} (h : txBL B l) (ht : tx.length ≤ c) : txBL (B + c) (rEnd l (.mk k nm ats tx [])) := by
  have hl : txBL (B + c) l := txBL_more (by omega) h
  have hn : txB1 (B + c) (.mk k nm ats tx []) := by
    simp only [txB1, txBL]
    exact ⟨by omega, trivial⟩
  have hadd : txBL (B + c) (l ++ [.mk k nm ats tx []]) := by
    rw [txBL_iff] at hl ⊢
    intro m hm
    rcases List.mem_append.1 hm with h1 | h1
    · exact hl m h1
    · rw [List.mem_singleton] at h1; rw [h1]; exact hn
  rcases List.eq_nil_or_concat l with rfl | ⟨D, m, rfl⟩
  · unfold rEnd
    simp only [List.getLast?_nil]
    split
    · exact hl
    · exact hadd
  · obtain ⟨km, nmm, atm, txm, kim⟩ := m
    rw [List.concat_eq_append] at h hl hadd ⊢
    have hm := txBL_iff.1 h (.mk km nmm atm txm kim) (by simp)
    simp only [txB1] at hm
    have e : rEnd (D ++ [.mk km nmm atm txm kim]) (.mk k nm ats tx []) = if k = 2 ∧ km = 2 then D ++ [.mk km nmm atm (txm ++ tx) kim] else if k = 2 ∧ tx = [] then D ++ [.mk km nmm atm txm kim] else D ++ [.mk km nmm atm txm kim] ++ [.mk k nm ats tx []] := by
      unfold rEnd
      rw [show (D ++ [Nd.mk km nmm atm txm kim]).getLast? = some (.mk km nmm atm txm kim) by simp, show (D ++ [Nd.mk km nmm atm txm kim]).dropLast = D by simp]
      rfl
    rw [e]
    by_cases h2 : k = 2 ∧ km = 2
    · rw [if_pos h2]
      rw [txBL_iff] at hl ⊢
      intro x hx
      rcases List.mem_append.1 hx with h1 | h1
      · exact hl x (List.mem_append_left _ h1)
      · rw [List.mem_singleton] at h1
        rw [h1]
        simp only [txB1, List.length_append]
        exact ⟨by omega, txBL_more (by omega) hm.2⟩
    · rw [if_neg h2]
      by_cases h3 : k = 2 ∧ tx = []
      · rw [if_pos h3]; exact hl
      · rw [if_neg h3]; exact hadd
theorem rPut_tx {B c : Nat} {k : Int} {nm tx : List UInt8} {ats : List Atr} (ht : tx.length ≤ c) : ∀ (P : List Nat) (l : List Nd), txBL B l → PathOk l P → txBL (B + c) (rPut l P (.mk k nm ats tx []))
  | [], l, h, _ => rEnd_tx h ht
  | i :: p, l, h, hp => by
    obtain ⟨hi, hp2⟩ := hp
    rw [rPut]
    have hg : l.getD i dNd = l[i] := by simp [List.getD, List.getElem?_eq_getElem hi]
    rw [hg] at hp2 ⊢
    have hk := txBL_at h i hi
    generalize l[i] = nd at hk hp2 ⊢
    obtain ⟨km, nmm, atm, txm, kim⟩ := nd
    simp only [Nd.kids] at hp2
    simp only [txB1] at hk
    refine txBL_set (txBL_more (by omega) h) ?_
    simp only [setKids, Nd.kids, Nd.kind, Nd.name, Nd.attrs, Nd.text, txB1]
    exact ⟨by omega, rPut_tx ht p kim hk.2 hp2⟩

theorem rStay_le (nm : List UInt8) (o : List (List UInt8)) : rStay nm o ≤ o.length := by
  induction o with
  | nil => simp [rStay]
  | cons a o ih => simp only [rStay, List.length_cons]; split <;> omega
theorem rOpen_length : ∀ (P : List Nat) (l : List Nd), (rOpen l P).length = P.length
  | [], _ => rfl
  | i :: p, l => by simp only [rOpen, List.length_cons, rOpen_length p]
/-- the reference's state behind k tokens -/
def RbOk (b : RB) (k : Nat) : Prop := (∃ z, RZ b z ∧ wtL z.tree ≤ 2 * k) ∧ b.P.length ≤ k ∧ txBL (1000 * k) b.L
theorem RbOk.start : RbOk ⟨[], []⟩ 0 := ⟨⟨⟨[], []⟩, ⟨rfl, rfl⟩, Nat.le_refl _⟩, Nat.le_refl _, by simp only [txBL]⟩
theorem RbOk.path {b : RB} {k : Nat} (h : RbOk b k) : PathOk b.L b.P := by
  obtain ⟨⟨z, ⟨h1, h2⟩, _⟩, _⟩ := h
  rw [h1, h2, show z.tree = treeO z.fr.reverse z.last from closeAll_O z.fr z.last]
  exact PathOk_O _ _
theorem RbOk.wt {b : RB} {k : Nat} (h : RbOk b k) : wtL b.L ≤ 2 * k := by
  obtain ⟨⟨z, ⟨h1, h2⟩, h3⟩, _⟩ := h
  rw [h1]; exact h3
theorem RbOk.put {b : RB} {k : Nat} (h : RbOk b k) {t : Tk} (ht : t.text.length ≤ 1000) : RbOk (rPutT b t) (k + 1) := by
  have hp := h.path
  obtain ⟨⟨z, hz, hw⟩, hl, hx⟩ := h
  refine ⟨⟨putZ z t, hz.put t, ?_⟩, ?_, ?_⟩
  · have h2 := putZ_sum wtL_sum (a := 2) (fun _ _ _ _ _ => rfl) (fun _ => by simp [wtL, wt1]) (fun _ => by simp [wtL, wt1]) z t
    have h3 : (if t.kind = 1 then 2 else if t.kind = 3 ∨ t.kind = 4 then 2 else 0) ≤ 2 := by split <;> (try split) <;> omega
    omega
  · unfold rPutT
    simp only
    split
    · split <;> simp [List.length_take] <;> omega
    · split
      · split
        · simp only [List.length_take]; omega
        · omega
      · split
        · simp only []; omega
        · split
          · simp only []; omega
          · omega
  · have hx' : txBL (1000 * (k + 1)) b.L := txBL_more (by omega) hx
    have hm : 1000 * (k + 1) = 1000 * k + 1000 := by omega
    unfold rPutT
    simp only
    rw [hm] at hx' ⊢
    split
    · exact rPut_tx (Nat.zero_le _) _ _ hx (PathOk_take _ _ _ hp)
    · split
      · split
        · exact hx'
        · exact hx'
      · split
        · exact rPut_tx ht _ _ hx hp
        · split
          · exact rPut_tx ht _ _ hx hp
          · exact hx'
theorem rTree_ok : ∀ (l : List Tk), (∀ t ∈ l, TkOk t) → ∀ k, k ≤ l.length → RbOk (rTree (l.take k)) k := by
  intro l hl k
  induction k with
  | zero => intro _; exact RbOk.start
  | succ k ih =>
    intro hk
    rw [List.take_succ_eq_append_getElem (by omega), rTree, List.foldl_append]
    exact (ih (by omega)).put (hl _ (List.getElem_mem _)).2.2.1
end Go.Proofs.Ytlfkipilgdeemaa
