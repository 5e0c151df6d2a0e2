/- Plain: what the reference's reach, Costs and Least tell. -/
import Derived.Test.YtfiojodpcpkiaaaHv
import Derived.Test.YtfiojodpcpkiaaaHs
import Derived.Test.YtfiojodpcpkiaaaHq
namespace Go.Proofs.Ytfiojodpcpkiaaa

/-- side s comes to its state i at cost n, where the trees' states cost cs -/
inductive Rch (s : Sd) (cs : List Int) : Nat → Int → Prop
  | start : Rch s cs 0 0
  | step {i v : Nat} {n : Int} : Rch s cs i n → v < cs.length → 0 ≤ cs.getD v (-1) → Rch s cs (s.nxt i v) (n + cs.getD v (-1))
/-- how many are set -/
def setN (l : List Int) : Nat := l.countP fun x => decide (0 ≤ x)
/-- what falls -/
def potL (B : Nat) (l : List Int) : Nat := (l.map fun x => if x < 0 then B else x.toNat).sum

theorem getD_in {l : List Int} {i : Nat} (h : 0 ≤ l.getD i (-1)) : i < l.length := by
  by_cases hi : i < l.length
  · exact hi
  · rw [List.getD, List.getElem?_eq_none (by omega)] at h
    simp at h
theorem getD_el {l : List Int} {i : Nat} (h : i < l.length) : l.getD i (-1) = l[i] := by simp [List.getD, h]
theorem getD_setz (l : List Int) (i j : Nat) (x : Int) (h : i < l.length) : (l.set i x).getD j (-1) = if i = j then x else l.getD j (-1) := by
  unfold List.getD
  rw [List.getElem?_set]
  by_cases e : i = j
  · subst e; simp [h]
  · simp [e]
theorem setN_new {l : List Int} {i : Nat} {x : Int} (hi : i < l.length) (h : l.getD i (-1) < 0) (hx : 0 ≤ x) : setN (l.set i x) = setN l + 1 := by
  rw [getD_el hi] at h
  unfold setN
  rw [List.countP_set hi]
  have h1 : ¬ (0 ≤ l[i]) := by omega
  simp [h1, hx]
theorem setN_old {l : List Int} {i : Nat} {x : Int} (hi : i < l.length) (h : 0 ≤ l.getD i (-1)) (hx : 0 ≤ x) : setN (l.set i x) = setN l := by
  rw [getD_el hi] at h
  have hp : 0 < setN l := List.countP_pos_iff.2 ⟨l[i], List.getElem_mem _, by simpa using h⟩
  unfold setN at hp ⊢
  rw [List.countP_set hi]
  simp only [h, hx, decide_true, if_true]
  omega
theorem setN_pos {l : List Int} {i : Nat} (h : 0 ≤ l.getD i (-1)) : 1 ≤ setN l := by
  have hi := getD_in h
  rw [getD_el hi] at h
  exact List.countP_pos_iff.2 ⟨l[i], List.getElem_mem _, by simpa using h⟩
theorem setN_le (l : List Int) : setN l ≤ l.length := List.countP_le_length
theorem potL_set (B : Nat) : ∀ (l : List Int) (i : Nat) (x : Int) (hi : i < l.length), potL B (l.set i x) + (if l[i] < 0 then B else l[i].toNat) = potL B l + (if x < 0 then B else x.toNat)
  | [], _, _, hi => by simp at hi
  | a :: l, 0, x, _ => by simp only [potL, List.set_cons_zero, List.map_cons, List.sum_cons, List.getElem_cons_zero]; omega
  | a :: l, i + 1, x, hi => by
    have ih := potL_set B l i x (by simpa using hi)
    simp only [potL] at ih
    simp only [potL, List.set_cons_succ, List.map_cons, List.sum_cons, List.getElem_cons_succ]
    omega
theorem potL_new {B : Nat} {l : List Int} {i : Nat} {x : Int} (hi : i < l.length) (h : l.getD i (-1) < 0 ∨ x < l.getD i (-1)) (hx : 0 ≤ x) (hB : x < (B : Int)) : potL B (l.set i x) < potL B l := by
  rw [getD_el hi] at h
  have h1 := potL_set B l i x hi
  rw [if_neg (show ¬ x < 0 by omega)] at h1
  by_cases h2 : l[i] < 0
  · rw [if_pos h2] at h1; omega
  · rw [if_neg h2] at h1; omega

/-- WHAT HOLDS IN reach -/
structure RI (s : Sd) (cs : List Int) (C : Int) (o : List Int) : Prop where
  len : o.length = s.out.length
  zero : o.getD 0 (-1) = 0
  snd : ∀ i, 0 ≤ o.getD i (-1) → Rch s cs i (o.getD i (-1))
  bnd : ∀ i, o.getD i (-1) ≤ C * (setN o : Int) - C
/-- row i is closed -/
def RClo (s : Sd) (cs o : List Int) (i v : Nat) : Prop := 0 ≤ o.getD i (-1) → 0 ≤ cs.getD v (-1) → 0 ≤ o.getD (s.nxt i v) (-1) ∧ o.getD (s.nxt i v) (-1) ≤ o.getD i (-1) + cs.getD v (-1)
/-- what reach tells -/
structure ReachP (s : Sd) (cs : List Int) (C : Int) (o : List Int) : Prop where
  len : o.length = s.out.length
  snd : ∀ i, 0 ≤ o.getD i (-1) → Rch s cs i (o.getD i (-1))
  cmp : ∀ i n, Rch s cs i n → 0 ≤ o.getD i (-1) ∧ o.getD i (-1) ≤ n
  bnd : ∀ i, o.getD i (-1) ≤ C * (s.out.length : Int) - C
section
variable {s : Sd} {cs : List Int} {C : Int} {o : List Int}
theorem Rch.nonneg {i : Nat} {n : Int} (h : Rch s cs i n) : 0 ≤ n := by
  induction h with
  | start => omega
  | step _ _ h3 ih => omega
theorem mulC_le {C : Int} {a b : Nat} (hC : 0 ≤ C) (h : a ≤ b) : C * (a : Int) ≤ C * (b : Int) := Int.mul_le_mul_of_nonneg_left (by omega) hC
theorem RI.le (h : RI s cs C o) (hC : 0 ≤ C) (i : Nat) : o.getD i (-1) ≤ C * (s.out.length : Int) - C := by
  have h1 := h.bnd i
  have h2 := mulC_le hC (show setN o ≤ s.out.length by rw [← h.len]; exact setN_le o)
  omega
theorem RI.start {n : Nat} (hs : s.out.length = n) (hn : 0 < n) (hC : 0 ≤ C) : RI s cs C ((List.replicate n (-1)).set 0 0) := by
  have h0 : (0 : Nat) < (List.replicate n (-1 : Int)).length := by simpa using hn
  have hg : ∀ i, ((List.replicate n (-1 : Int)).set 0 0).getD i (-1) = if 0 = i then 0 else -1 := fun i => by
    rw [getD_setz _ _ _ _ h0]
    by_cases e : 0 = i
    · simp [e]
    · rw [if_neg e, if_neg e]
      unfold List.getD
      by_cases hi : i < n
      · simp [hi]
      · rw [List.getElem?_eq_none (by simp; omega)]; rfl
  refine ⟨by simp [hs], by rw [hg]; rfl, fun i hi => ?_, fun i => ?_⟩
  · rw [hg] at hi ⊢
    by_cases e : 0 = i
    · subst e; rw [if_pos rfl]; exact Rch.start
    · rw [if_neg e] at hi; omega
  · have h1 : 1 ≤ setN ((List.replicate n (-1 : Int)).set 0 0) := setN_pos (i := 0) (by rw [hg]; decide)
    have h2 := mulC_le hC h1
    rw [hg]
    have : C * ((1 : Nat) : Int) = C := by simp
    split <;> omega
/-- one is set, or falls -/
theorem RI.upd {B i v : Nat} (h : RI s cs C o) (hC : ∀ v, cs.getD v (-1) ≤ C) (hv : v < cs.length) (hoi : 0 ≤ o.getD i (-1)) (hcv : 0 ≤ cs.getD v (-1)) (hn : s.nxt i v < s.out.length)
    (hup : o.getD (s.nxt i v) (-1) < 0 ∨ o.getD i (-1) + cs.getD v (-1) < o.getD (s.nxt i v) (-1)) (hB : C * (s.out.length : Int) < (B : Int)) :
    RI s cs C (o.set (s.nxt i v) (o.getD i (-1) + cs.getD v (-1))) ∧ potL B (o.set (s.nxt i v) (o.getD i (-1) + cs.getD v (-1))) < potL B o := by
  have hn' : s.nxt i v < o.length := by rw [h.len]; exact hn
  have hC0 : 0 ≤ C := Int.le_trans hcv (hC v)
  have hx : 0 ≤ o.getD i (-1) + cs.getD v (-1) := by omega
  have hcC := hC v
  have hbi := h.le hC0 i
  have hr := Rch.step (h.snd i hoi) hv hcv
  refine ⟨⟨by rw [List.length_set]; exact h.len, ?_, fun j hj => ?_, fun j => ?_⟩, potL_new hn' hup hx (by omega)⟩
  · rw [getD_setz _ _ _ _ hn']
    split
    · rename_i e
      rw [e, h.zero] at hup
      omega
    · exact h.zero
  · rw [getD_setz _ _ _ _ hn'] at hj ⊢
    split
    · rename_i e
      rw [e] at hr
      exact hr
    · rename_i e
      rw [if_neg e] at hj
      exact h.snd j hj
  · have h1 := h.bnd i
    have h2 := h.bnd j
    have h3 := h.bnd (s.nxt i v)
    rw [getD_setz _ _ _ _ hn']
    by_cases hneg : o.getD (s.nxt i v) (-1) < 0
    · rw [setN_new hn' hneg hx]
      have h4 : C * ((setN o + 1 : Nat) : Int) = C * (setN o : Int) + C := by
        rw [show ((setN o + 1 : Nat) : Int) = (setN o : Int) + 1 from rfl, Int.mul_add, Int.mul_one]
      split <;> omega
    · rw [setN_old hn' (by omega) hx]
      split <;> omega
theorem RI.close (h : RI s cs C o) (hC : 0 ≤ C) (hclo : ∀ i v, i < s.out.length → v < cs.length → RClo s cs o i v) : ReachP s cs C o := by
  refine ⟨h.len, h.snd, fun i n hr => ?_, h.le hC⟩
  induction hr with
  | start => rw [h.zero]; omega
  | @step i v n _ h2 h3 ih =>
    have h4 := getD_in ih.1
    have h5 := hclo i v (by rw [← h.len]; exact h4) h2 ih.1 h3
    omega
end

/-- the bound: so many states are set -/
def TT : Nat → Int
  | 0 => 0
  | m + 1 => 3 * TT m + 1
theorem TT_nonneg : ∀ m, 0 ≤ TT m
  | 0 => by simp [TT]
  | m + 1 => by have := TT_nonneg m; rw [TT]; omega
theorem TT_succ (m : Nat) : TT m ≤ TT (m + 1) := by have := TT_nonneg m; rw [TT]; omega
theorem TT_mono {a b : Nat} (h : a ≤ b) : TT a ≤ TT b := by
  induction h with
  | refl => exact Int.le_refl _
  | step _ ih => exact Int.le_trans ih (TT_succ _)
theorem TT_40 {m : Nat} (h : m ≤ 4) : TT m ≤ 40 := TT_mono h

/-- WHAT HOLDS IN Costs -/
structure CI (h : Hd) (cs : List Int) : Prop where
  len : cs.length = h.K.toNat
  lo : ∀ v, -1 ≤ cs.getD v (-1)
  snd : ∀ v, 0 ≤ cs.getD v (-1) → ∃ t, stT h.mc t = some v ∧ (wtT t : Int) = cs.getD v (-1)
  bnd : ∀ v, cs.getD v (-1) ≤ TT (setN cs)
/-- label i is closed -/
def CClo (h : Hd) (cs : List Int) (i : Nat) : Prop := ∀ k n, Rch (h.side i) cs k n → 0 ≤ cs.getD ((h.side i).tell k) (-1) ∧ cs.getD ((h.side i).tell k) (-1) ≤ n + 1
section
variable {h : Hd} {cs : List Int}
theorem Rch.trees {i : Nat} (H : CI h cs) {k : Nat} {n : Int} (hr : Rch (h.side i) cs k n) : ∃ l, thrT h.mc i 0 l = some k ∧ (wtTs l : Int) = n := by
  induction hr with
  | start => exact ⟨[], rfl, rfl⟩
  | @step k v n _ h2 h3 ih =>
    obtain ⟨l, e1, e2⟩ := ih
    obtain ⟨t, e3, e4⟩ := H.snd v h3
    refine ⟨l ++ [t], thrT_snoc e1 e3, ?_⟩
    rw [wtTs_append, wtTs, wtTs]
    omega
theorem CI.start {n : Nat} (hn : h.K.toNat = n) : CI h (List.replicate n (-1)) := by
  have hg : ∀ i, (List.replicate n (-1 : Int)).getD i (-1) = -1 := fun i => by
    unfold List.getD
    by_cases hi : i < n
    · simp [hi]
    · rw [List.getElem?_eq_none (by simp; omega)]; rfl
  refine ⟨by simp [hn], fun v => by rw [hg]; omega, fun v hv => by rw [hg] at hv; omega, fun v => ?_⟩
  have := TT_nonneg (setN (List.replicate n (-1 : Int)))
  rw [hg]; omega
/-- one is set, or falls -/
theorem CI.upd {B i k : Nat} {csR o : List Int} (H : CI h cs) (HR : CI h csR) (hle : setN csR ≤ setN cs) (hi : i < h.labs.length) (hr : ReachP (h.side i) csR (TT (setN csR)) o) (hsz : (h.side i).out.length ≤ 4) (hok : 0 ≤ o.getD k (-1)) (hv : (h.side i).tell k < cs.length)
    (hup : cs.getD ((h.side i).tell k) (-1) < 0 ∨ o.getD k (-1) + 1 < cs.getD ((h.side i).tell k) (-1)) (hB : TT (setN csR) * 4 + 1 < (B : Int)) :
    CI h (cs.set ((h.side i).tell k) (o.getD k (-1) + 1)) ∧ potL B (cs.set ((h.side i).tell k) (o.getD k (-1) + 1)) < potL B cs ∧ setN csR ≤ setN (cs.set ((h.side i).tell k) (o.getD k (-1) + 1)) := by
  have hx : 0 ≤ o.getD k (-1) + 1 := by omega
  have hT := TT_nonneg (setN csR)
  have hb := hr.bnd k
  have hb2 := mulC_le hT hsz
  have hb3 : o.getD k (-1) ≤ 3 * TT (setN csR) := by
    have : TT (setN csR) * ((4 : Nat) : Int) = 4 * TT (setN csR) := Int.mul_comm _ _
    omega
  obtain ⟨l, e1, e2⟩ := Rch.trees HR (hr.snd k hok)
  refine ⟨⟨by rw [List.length_set]; exact H.len, fun v => ?_, fun v hv' => ?_, fun v => ?_⟩, potL_new hv hup hx (by omega), ?_⟩
  · rw [getD_setz _ _ _ _ hv]
    split
    · omega
    · exact H.lo v
  · rw [getD_setz _ _ _ _ hv] at hv' ⊢
    split
    · rename_i e
      refine ⟨.mk i l, ?_, ?_⟩
      · rw [stT_mk _ (show i < h.mc.L from hi), e1, Option.map_some, ← e]; rfl
      · rw [wtT]; omega
    · rename_i e
      rw [if_neg e] at hv'
      exact H.snd v hv'
  · have h1 := H.bnd v
    rw [getD_setz _ _ _ _ hv]
    by_cases hneg : cs.getD ((h.side i).tell k) (-1) < 0
    · rw [setN_new hv hneg hx]
      have h2 := TT_mono hle
      have h3 := TT_succ (setN cs)
      have h4 : TT (setN cs + 1) = 3 * TT (setN cs) + 1 := rfl
      split <;> omega
    · rw [setN_old hv (by omega) hx]
      have h2 := H.bnd ((h.side i).tell k)
      split <;> omega
  · by_cases hneg : cs.getD ((h.side i).tell k) (-1) < 0
    · rw [setN_new hv hneg hx]; omega
    · rw [setN_old hv (by omega) hx]; exact hle
/-- the costs' meaning: of each state the least that a tree of it weighs -/
structure CostR (h : Hd) (cs : List Int) : Prop where
  ci : CI h cs
  cmp : ∀ t v, stT h.mc t = some v → 0 ≤ cs.getD v (-1) ∧ cs.getD v (-1) ≤ wtT t
theorem cmp_list' : ∀ (l : List Tr) (i s k : Nat) (n : Int), (∀ t ∈ l, ∀ v, stT h.mc t = some v → 0 ≤ cs.getD v (-1) ∧ cs.getD v (-1) ≤ wtT t) → Rch (h.side i) cs s n → thrT h.mc i s l = some k → ∃ m, Rch (h.side i) cs k m ∧ m ≤ n + wtTs l := by
  intro l i
  induction l with
  | nil =>
    intro s k n _ hr ht
    rw [thrT] at ht
    injection ht with ht
    subst ht
    exact ⟨n, hr, by rw [wtTs]; omega⟩
  | cons t l ih =>
    intro s k n hm hr ht
    rw [thrT] at ht
    cases hst : stT h.mc t with
    | none => rw [hst] at ht; cases ht
    | some v =>
      rw [hst] at ht
      obtain ⟨h1, h2⟩ := hm t (by simp) v hst
      obtain ⟨m, h3, h4⟩ := ih _ k _ (fun t' ht' => hm t' (by simp [ht'])) (Rch.step hr (getD_in h1) h1) ht
      refine ⟨m, h3, ?_⟩
      rw [wtTs]
      omega
theorem CI.close (H : CI h cs) (hclo : ∀ i, i < h.labs.length → CClo h cs i) : CostR h cs := by
  refine ⟨H, ?_⟩
  have hall : ∀ (b : Nat) (t : Tr) (v : Nat), wtT t ≤ b → stT h.mc t = some v → 0 ≤ cs.getD v (-1) ∧ cs.getD v (-1) ≤ wtT t := by
    intro b
    induction b with
    | zero => intro t v hb _; rw [wtT_eq] at hb; omega
    | succ b ih =>
      intro t v hb hst
      cases t with
      | mk a kids =>
        rw [stT] at hst
        split at hst
        · rename_i ha
          cases hth : thrT h.mc a.toNat 0 kids with
          | none => rw [hth] at hst; cases hst
          | some k =>
            rw [hth, Option.map_some] at hst
            injection hst with hst
            rw [wtT] at hb
            have hkid : ∀ t ∈ kids, ∀ v, stT h.mc t = some v → 0 ≤ cs.getD v (-1) ∧ cs.getD v (-1) ≤ wtT t := fun t ht v hv => ih t v (by
              have : wtT t ≤ wtTs kids := by
                clear hth hst hb
                induction kids with
                | nil => cases ht
                | cons t' l ihl =>
                  rw [wtTs]
                  rcases List.mem_cons.1 ht with rfl | h2
                  · omega
                  · have := ihl h2; omega
              omega) hv
            obtain ⟨m, h3, h4⟩ := cmp_list' kids a.toNat 0 k 0 hkid Rch.start hth
            have h5 := hclo a.toNat ha.2 k m h3
            have h6 : (h.side a.toNat).tell k = v := hst
            rw [h6] at h5
            rw [wtT]
            omega
        · cases hst
  exact fun t v h => hall (wtT t) t v (Nat.le_refl _) h
end
end Go.Proofs.Ytfiojodpcpkiaaa
