/- Plain: steps, their order, and a heap of them: what container/heap's up and down keep. No program in sight. -/
import Derived.ProofKit
section
namespace Go.Proofs.YtnkelhmjkmeilaaGreatDoor.H
structure Stp where
  num : Nat
  st : Nat
  cost : Nat
  frm : Int
  tree : Int
  deriving DecidableEq
def cmpI (x y : Int) : Int := if x < y then -1 else if y < x then 1 else 0
def orL : List Int → Int
  | [] => 0
  | x :: l => if x = 0 then orL l else x
def ordS (a b : Stp) : Int := orL [cmpI a.cost b.cost, cmpI a.num b.num, cmpI a.st b.st, cmpI a.frm b.frm, cmpI a.tree b.tree]
def ltS (a b : Stp) : Bool := decide (ordS a b < 0)
theorem ordS_eq (a b : Stp) : ∃ r, ordS a b = if cmpI a.cost b.cost = 0 then r else cmpI a.cost b.cost := ⟨_, by rw [ordS, orL]⟩
theorem ltS_le {a b : Stp} (h : ltS a b = true) : a.cost ≤ b.cost := by
  obtain ⟨r, hr⟩ := ordS_eq a b
  rw [ltS, hr, decide_eq_true_eq] at h
  rcases Nat.lt_trichotomy a.cost b.cost with h1 | h1 | h1
  · omega
  · omega
  · have : cmpI a.cost b.cost = 1 := by unfold cmpI; rw [if_neg (by omega), if_pos (by omega)]
    rw [this] at h
    simp at h
theorem ltS_ge {a b : Stp} (h : ltS a b = false) : b.cost ≤ a.cost := by
  obtain ⟨r, hr⟩ := ordS_eq a b
  rw [ltS, hr, decide_eq_false_iff_not] at h
  rcases Nat.lt_trichotomy a.cost b.cost with h1 | h1 | h1
  · have : cmpI a.cost b.cost = -1 := by unfold cmpI; rw [if_pos (by omega)]
    rw [this] at h
    simp at h
  · omega
  · omega
def sw (q : List Stp) (i j : Nat) : List Stp := if h : i < q.length ∧ j < q.length then (q.set i q[j]).set j q[i] else q
theorem sw_perm (q : List Stp) (i j : Nat) : (sw q i j).Perm q := by
  unfold sw
  split
  · rename_i h
    rw [List.perm_iff_count]
    intro a
    have hj : j < (q.set i q[j]).length := by simp; exact h.2
    rw [List.count_set hj, List.count_set h.1, List.getElem_set]
    by_cases hij : i = j
    · subst hij
      simp
      have : (if q[i] == a then 1 else 0) ≤ q.count a := by
        split
        · rename_i h2
          have : q[i] = a := by simpa using h2
          rw [← this]
          exact List.count_pos_iff.2 (List.getElem_mem _)
        · omega
      simp at this
      omega
    · rw [if_neg hij]
      have h1 : (if q[i] == a then 1 else 0) ≤ q.count a := by
        split
        · rename_i h2
          have : q[i] = a := by simpa using h2
          rw [← this]
          exact List.count_pos_iff.2 (List.getElem_mem _)
        · omega
      omega
  · exact List.Perm.refl _
theorem sw_length (q : List Stp) (i j : Nat) : (sw q i j).length = q.length := (sw_perm q i j).length_eq
def cs (q : List Stp) (i : Nat) : Nat := match q[i]? with | some s => s.cost | none => 0
theorem cs_at {q : List Stp} {i : Nat} (h : i < q.length) : cs q i = q[i].cost := by unfold cs; rw [List.getElem?_eq_getElem h]
theorem sw_at {q : List Stp} {i j k : Nat} (hi : i < q.length) (hj : j < q.length) : (sw q i j)[k]? = if k = j then q[i]? else if k = i then q[j]? else q[k]? := by
  unfold sw
  rw [dif_pos ⟨hi, hj⟩, List.getElem?_set, List.getElem?_set, List.length_set]
  by_cases h1 : j = k
  · subst h1
    simp [hj, List.getElem?_eq_getElem hi]
  · have h1' : ¬ k = j := fun e => h1 e.symm
    by_cases h2 : i = k
    · subst h2
      simp [h1, h1', hi, List.getElem?_eq_getElem hj]
    · have h2' : ¬ k = i := fun e => h2 e.symm
      simp [h1, h1', h2, h2']
theorem sw_cs {q : List Stp} {i j : Nat} (hi : i < q.length) (hj : j < q.length) (k : Nat) : cs (sw q i j) k = if k = j then cs q i else if k = i then cs q j else cs q k := by
  unfold cs
  rw [sw_at hi hj]
  by_cases h1 : k = j
  · rw [if_pos h1, if_pos h1]
  · rw [if_neg h1, if_neg h1]
    by_cases h2 : k = i
    · rw [if_pos h2, if_pos h2]
    · rw [if_neg h2, if_neg h2]
def HO (c : Nat → Nat) (n : Nat) : Prop := ∀ i, 0 < i → i < n → c ((i - 1) / 2) ≤ c i
def UpI (c : Nat → Nat) (n j : Nat) : Prop := (∀ i, 0 < i → i < n → i ≠ j → c ((i - 1) / 2) ≤ c i) ∧ (0 < j → ∀ i, 0 < i → i < n → (i - 1) / 2 = j → c ((j - 1) / 2) ≤ c i)
def DnI (c : Nat → Nat) (n i : Nat) : Prop := (∀ k, 0 < k → k < n → (k - 1) / 2 ≠ i → c ((k - 1) / 2) ≤ c k) ∧ (0 < i → ∀ k, 0 < k → k < n → (k - 1) / 2 = i → c ((i - 1) / 2) ≤ c k)
theorem UpI.step {c c' : Nat → Nat} {n j : Nat} (h : UpI c n j) (hj : 0 < j) (hjn : j < n) (hl : c j ≤ c ((j - 1) / 2)) (hc : ∀ k, c' k = if k = j then c ((j - 1) / 2) else if k = (j - 1) / 2 then c j else c k) : UpI c' n ((j - 1) / 2) := by
  obtain ⟨h1, h2⟩ := h
  have h2 := h2 hj
  generalize hp : (j - 1) / 2 = p at *
  have hpj : p < j := by omega
  refine ⟨fun i hi hin hip => ?_, fun hp0 i hi hin hip => ?_⟩
  · rw [hc, hc i]
    by_cases e1 : i = j
    · subst e1
      rw [if_neg (by omega), if_pos hp, if_pos rfl]
      exact hl
    · have h3 := h1 i hi hin e1
      rw [if_neg e1, if_neg hip]
      by_cases e2 : (i - 1) / 2 = j
      · rw [if_pos e2]
        exact h2 i hi hin e2
      · rw [if_neg e2]
        by_cases e3 : (i - 1) / 2 = p
        · rw [if_pos e3]
          rw [e3] at h3
          omega
        · rw [if_neg e3]
          exact h3
  · have h4 := h1 p hp0 (by omega) (by omega)
    rw [hc, hc i, if_neg (by omega), if_neg (by omega)]
    by_cases e1 : i = j
    · rw [if_pos e1]; exact h4
    · rw [if_neg e1, if_neg (by omega)]
      have h3 := h1 i hi hin e1
      rw [hip] at h3
      omega
theorem UpI.done {c : Nat → Nat} {n j : Nat} (h : UpI c n j) (hd : j = 0 ∨ c ((j - 1) / 2) ≤ c j) : HO c n := by
  intro i hi hin
  by_cases e : i = j
  · subst e
    rcases hd with hd | hd
    · omega
    · exact hd
  · exact h.1 i hi hin e
theorem UpI.start {c c' : Nat → Nat} {n : Nat} (h : HO c n) (hc : ∀ k, k < n → c' k = c k) : UpI c' (n + 1) n := by
  refine ⟨fun i hi hin hne => ?_, fun hn i hi hin he => ?_⟩
  · rw [hc i (by omega), hc _ (by omega)]
    exact h i hi (by omega)
  · omega
theorem DnI.start {c c' : Nat → Nat} {n : Nat} (h : HO c (n + 1)) (hc : ∀ k, 0 < k → k < n → c' k = c k) : DnI c' n 0 := by
  refine ⟨fun k hk hkn hp => ?_, fun h0 => by omega⟩
  rw [hc k hk hkn, hc _ (by omega) (by omega)]
  exact h k hk (by omega)
theorem DnI.step {c c' : Nat → Nat} {n i j : Nat} (h : DnI c n i) (hj : (j - 1) / 2 = i) (hj0 : 0 < j) (hjn : j < n) (hl : c j ≤ c i) (ho : ∀ k, 0 < k → k < n → (k - 1) / 2 = i → c j ≤ c k) (hc : ∀ k, c' k = if k = j then c i else if k = i then c j else c k) : DnI c' n j := by
  obtain ⟨h1, h2⟩ := h
  have hij : i < j := by omega
  refine ⟨fun k hk hkn hp => ?_, fun _ k hk hkn hp => ?_⟩
  · rw [hc, hc k]
    rw [if_neg hp]
    by_cases e1 : (k - 1) / 2 = i
    · rw [if_pos e1]
      by_cases e2 : k = j
      · rw [if_pos e2]; exact hl
      · rw [if_neg e2, if_neg (by omega)]
        exact ho k hk hkn e1
    · rw [if_neg e1, if_neg (fun e => e1 (by rw [e]; exact hj))]
      by_cases e2 : k = i
      · rw [if_pos e2, e2]
        exact h2 (by omega) j hj0 hjn hj
      · rw [if_neg e2]
        exact h1 k hk hkn e1
  · rw [hc, hc k, if_neg (by omega), if_pos hj, if_neg (by omega), if_neg (by omega)]
    have := h1 k hk hkn (by omega)
    rw [hp] at this
    exact this
theorem DnI.done {c : Nat → Nat} {n i : Nat} (h : DnI c n i) (hd : ∀ k, 0 < k → k < n → (k - 1) / 2 = i → c i ≤ c k) : HO c n := by
  intro k hk hkn
  by_cases e : (k - 1) / 2 = i
  · rw [e]; exact hd k hk hkn e
  · exact h.1 k hk hkn e
theorem HO.min {c : Nat → Nat} {n : Nat} (h : HO c n) : ∀ i, i < n → c 0 ≤ c i := by
  intro i
  induction i using Nat.strongRecOn with
  | _ i ih =>
    intro hi
    rcases Nat.eq_zero_or_pos i with h0 | h0
    · rw [h0]; exact Nat.le_refl _
    · exact Nat.le_trans (ih ((i - 1) / 2) (by omega) (by omega)) (h i h0 hi)
theorem HO.less {c : Nat → Nat} {n m : Nat} (h : HO c n) (hm : m ≤ n) : HO c m := fun i hi him => h i hi (by omega)
def Heap (q : List Stp) : Prop := HO (cs q) q.length
end Go.Proofs.YtnkelhmjkmeilaaGreatDoor.H
end
