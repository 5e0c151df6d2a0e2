/- What Nodes() has made so far: rows of nodes, of which some kids are still to be filled in. -/
import Derived.Test.YtnkelhmjkmeilaaGreatDoorT35
section
namespace Go.Proofs.YtnkelhmjkmeilaaGreatDoor.K
open Go.RowKit
structure Jb where
  A : Option Addr
  c : Nat
  ids : List Nat
  trees : List Nd
  d : Addr
def jbCells : List Jb → List Value
  | [] => []
  | j :: S => jbCells S ++ [.slice j.A j.ids.length j.c, .pointer (some j.d)]
theorem jbCells_length (S : List Jb) : (jbCells S).length = S.length * 2 := by
  induction S with
  | nil => rfl
  | cons j S ih => rw [jbCells, List.length_append, ih, List.length_cons]; simp only [List.length_cons, List.length_nil]; omega
def jbWt : List Jb → Nat
  | [] => 0
  | j :: S => 1 + wtL j.trees + jbWt S
theorem jbWt_le (S : List Jb) : S.length ≤ jbWt S := by
  induction S with
  | nil => simp
  | cons j S ih => rw [jbWt, List.length_cons]; omega
theorem jbWt_append (S T : List Jb) : jbWt (S ++ T) = jbWt S + jbWt T := by
  induction S with
  | nil => simp [jbWt]
  | cons j S ih => rw [List.cons_append, jbWt, jbWt, ih]; omega
def JbOk (w : World) (g : Sto) (j : Jb) : Prop := Rd w w.heap.size 1 j.A j.ids.length (ptrs j.ids) ∧ j.ids.length ≤ j.c ∧ j.ids.length ≤ 10000 ∧ ∃ hi lo, Trs g j.trees hi lo j.ids
theorem Trs.at_ {g : Sto} : ∀ {l : List Nd} {hi lo : Nat} {ids : List Nat}, Trs g l hi lo ids → ∀ (k : Nat) (hk : k < l.length) (hk' : k < ids.length), ∃ hi', Tr g l[k] hi' ids[k]
  | [], _, _, _, _, k, hk, _ => by simp at hk
  | n :: l, hi, lo, ids, h, k, hk, hk' => by
    simp only [Trs] at h
    obtain ⟨b, bs, m, rfl, _, _, h3, h4⟩ := h
    match k with
    | 0 => exact ⟨m, h3⟩
    | k + 1 =>
      simp only [List.getElem_cons_succ]
      exact Trs.at_ h4 k (by simpa using hk) (by simpa using hk')
def Agr (w : World) (D : Nat → Prop) (ds : List Addr) (w2 : World) : Prop := ∀ q, D q → ∃ arr arr2 e, w.heap[q]? = some (.cells arr e (0, 0)) ∧ w2.heap[q]? = some (.cells arr2 e (0, 0)) ∧ arr2.size = arr.size ∧ (∀ o, (⟨q, o, none⟩ : Addr) ∉ ds → arr2[o]? = arr[o]?) ∧ (e = 78 → arr2 = arr)
def AtB (w : World) (D : Nat → Prop) : Nat → Prop := fun q => D q ∧ ∃ arr, w.heap[q]? = some (.cells arr 78 (0, 0))
def RowTy (w : World) (D : Nat → Prop) (A : Option Addr) (l : List Nd) : Prop := ∃ R arr, A = some ⟨R, 0, none⟩ ∧ D R ∧ w.heap[R]? = some (.cells arr 28 (0, 0)) ∧ arr.size = l.length * 5 ∧
  ∀ i (hi : i < l.length), ∃ A1 n1 c1, arr[i * 5 + 2]? = some (.slice A1 n1 c1) ∧ n1 ≤ c1 ∧ RdP w (AtB w D) 2 A1 n1 (atrCells l[i].attrs)
def CellN (w : World) (D : Nat → Prop) (d : Addr) (l : List Nd) : Prop := ∃ A n c, w.cell? d = some (.slice A n c) ∧ n ≤ c ∧ NodesP w D A n l ∧ RowTy w D A l
def Wand (w : World) (D : Nat → Prop) (S : List Jb) (d : Addr) (l : List Nd) : Prop := ∀ w2 D2, (∀ q, D q → D2 q) → Agr w D (S.map (·.d)) w2 → (∀ j ∈ S, CellN w2 D2 j.d j.trees) → CellN w2 D2 d l
theorem Agr.refl {w : World} {D : Nat → Prop} (h : ∀ q, D q → ∃ arr e, w.heap[q]? = some (.cells arr e (0, 0))) (ds : List Addr) : Agr w D ds w := fun q hq => by
  obtain ⟨arr, e, hh⟩ := h q hq
  exact ⟨arr, arr, e, hh, hh, rfl, fun _ _ => rfl, fun _ => rfl⟩
def RowAt' (w : World) (D : Nat → Prop) (arr : Array Value) (R : Nat) (NJ : List Jb) (i : Nat) (n : Nd) : Prop :=
  ∃ A1 n1 c1, arr[i * 5]? = some (.int .i64 n.kind) ∧ arr[i * 5 + 1]? = some (sv n.name) ∧ arr[i * 5 + 2]? = some (.slice A1 n1 c1) ∧ n1 ≤ c1 ∧ RdP w (AtB w D) 2 A1 n1 (atrCells n.attrs) ∧ arr[i * 5 + 3]? = some (sv n.text) ∧
    (n.kids = [] → arr[i * 5 + 4]? = some (.slice none 0 0) ∧ ∀ j ∈ NJ, j.d ≠ ⟨R, i * 5 + 4, none⟩) ∧ (n.kids ≠ [] → ∃ j ∈ NJ, j.d = ⟨R, i * 5 + 4, none⟩ ∧ j.trees = n.kids)
theorem RowAt'.keep {w w' : World} {D D' : Nat → Prop} {arr arr' : Array Value} {R i : Nat} {NJ NJ' : List Jb} {n : Nd} (h : RowAt' w D arr R NJ i n) (hk : ∀ q, AtB w D q → w'.heap[q]? = w.heap[q]?) (hD : ∀ q, D q → D' q)
    (ha : ∀ j, j < 5 → arr'[i * 5 + j]? = arr[i * 5 + j]?) (hN : ∀ j ∈ NJ, j ∈ NJ') (hN' : ∀ j ∈ NJ', j ∈ NJ ∨ j.d ≠ ⟨R, i * 5 + 4, none⟩) : RowAt' w' D' arr' R NJ' i n := by
  obtain ⟨A1, n1, c1, r0, r1, r2, r3, r4, r5, r6, r7⟩ := h
  refine ⟨A1, n1, c1, (ha 0 (by omega)).trans r0, (ha 1 (by omega)).trans r1, (ha 2 (by omega)).trans r2, r3, ?_, (ha 3 (by omega)).trans r5, fun hn => ⟨(ha 4 (by omega)).trans (r6 hn).1, fun j hj => ?_⟩, fun hn => ?_⟩
  · refine (r4.keep fun p hp => World.cell?_of_block (hk p.block hp)).more fun q hq => ⟨hD q hq.1, ?_⟩
    obtain ⟨x, hx⟩ := hq.2
    exact ⟨x, (hk q hq).trans hx⟩
  · rcases hN' j hj with h9 | h9
    · exact (r6 hn).2 j h9
    · exact h9
  · obtain ⟨j, hj, h9⟩ := r7 hn
    exact ⟨j, hN j hj, h9⟩
theorem _root_.Go.Proofs.YtnkelhmjkmeilaaGreatDoor.NsIsP.build {w : World} {S : Nat → Prop} : ∀ {l : List Nd} {cs : List Value}, cs.length = l.length * 5 → (∀ i (hi : i < l.length), NIsP w S l[i] ((cs.drop (i * 5)).take 5)) → NsIsP w S l cs
  | [], cs, hl, _ => by
    simp only [NsIsP]
    exact List.eq_nil_of_length_eq_zero (by simpa using hl)
  | n :: l, cs, hl, h => by
    simp only [NsIsP]
    rw [List.length_cons] at hl
    refine ⟨cs.take 5, cs.drop 5, by simp, by have := h 0 (Nat.succ_pos _); rw [Nat.zero_mul, List.drop_zero] at this; exact this, NsIsP.build (by rw [List.length_drop]; omega) fun i hi => ?_⟩
    have := h (i + 1) (by simpa using hi)
    simp only [List.getElem_cons_succ] at this
    rw [List.drop_drop]
    rw [show 5 + i * 5 = (i + 1) * 5 by omega]
    exact this
theorem five_cells {cs : List Value} {o : Nat} {v0 v1 v2 v3 v4 : Value} (h0 : cs[o]? = some v0) (h1 : cs[o + 1]? = some v1) (h2 : cs[o + 2]? = some v2) (h3 : cs[o + 3]? = some v3) (h4 : cs[o + 4]? = some v4) : (cs.drop o).take 5 = [v0, v1, v2, v3, v4] := by
  apply List.ext_getElem?
  intro j
  rw [List.getElem?_take]
  by_cases hj : j < 5
  · rw [if_pos hj, List.getElem?_drop]
    match j, hj with
    | 0, _ => simpa using h0
    | 1, _ => simpa using h1
    | 2, _ => simpa using h2
    | 3, _ => simpa using h3
    | 4, _ => simpa using h4
  · rw [if_neg hj]
    rw [List.getElem?_eq_none (by simp; omega)]
theorem Wand.step {w w' : World} {D D' : Nat → Prop} {S NJ : List Jb} {j0 : Jb} {d : Addr} {l : List Nd} {R : Nat} {arr : Array Value}
    (h : Wand w D (j0 :: S) d l) (hDD : ∀ q, D q → D' q) (hR : D' R) (hRD : ¬ D R)
    (hD : ∀ q, D q → ∃ a a' e, w.heap[q]? = some (.cells a e (0, 0)) ∧ w'.heap[q]? = some (.cells a' e (0, 0)) ∧ a'.size = a.size ∧ (∀ o, (⟨q, o, none⟩ : Addr) ≠ j0.d → a'[o]? = a[o]?) ∧ (e = 78 → a' = a))
    (hj0 : w'.cell? j0.d = some (.slice (some ⟨R, 0, none⟩) j0.trees.length j0.trees.length)) (hj0D : D j0.d.block) (hj0s : j0.d = ⟨j0.d.block, j0.d.off, none⟩) (hnS : ∀ j ∈ S, j.d ≠ j0.d)
    (hrow : w'.heap[R]? = some (.cells arr 28 (0, 0))) (hsz : arr.size = j0.trees.length * 5) (hat : ∀ i (hi : i < j0.trees.length), RowAt' w' D' arr R NJ i j0.trees[i])
    (hNJ : ∀ j ∈ NJ, j.d.block = R ∧ ∃ i, j.d = ⟨R, i * 5 + 4, none⟩) (hSD : ∀ j ∈ S, D j.d.block) : Wand w' D' (NJ ++ S) d l := by
  intro w2 D2 hD2 hag hrd
  refine h w2 D2 (fun q hq => hD2 q (hDD q hq)) ?_ ?_
  · intro q hq
    obtain ⟨a, a', e, h1, h2, h3, h4, h10⟩ := hD q hq
    obtain ⟨b, b', e', h5, h6, h7, h8, h11⟩ := hag q (hDD q hq)
    rw [h2] at h5
    injection h5 with h5
    injection h5 with h5 h9
    subst h5 h9
    refine ⟨a, b', e, h1, h6, by rw [h7, h3], fun o ho => ?_, fun he => by rw [h11 he, h10 he]⟩
    rw [List.map_cons, List.mem_cons, not_or] at ho
    rw [h8 o ?_, h4 o ho.1]
    rw [List.map_append, List.mem_append]
    rintro (hx | hx)
    · obtain ⟨j, hj, e1⟩ := List.mem_map.1 hx
      have := (hNJ j hj).1
      rw [e1] at this
      simp only [] at this
      subst this
      exact hRD hq
    · exact ho.2 hx
  · intro j hj
    rcases List.mem_cons.1 hj with rfl | hj
    · have hdn : j.d ∉ (NJ ++ S).map (·.d) := by
        rw [List.map_append, List.mem_append]
        rintro (hx | hx)
        · obtain ⟨i, hi, e1⟩ := List.mem_map.1 hx
          have := (hNJ i hi).1
          rw [e1] at this
          rw [this] at hj0D
          exact hRD hj0D
        · obtain ⟨i, hi, e1⟩ := List.mem_map.1 hx
          exact hnS i hi e1
      obtain ⟨a, a', e, h1, h2, h3, h4, _⟩ := hag _ (hDD _ hj0D)
      have hcell : w2.cell? j.d = w'.cell? j.d := by
        rw [hj0s, Lib.cell_of_heap h2, Lib.cell_of_heap h1]
        exact h4 _ (by rw [← hj0s]; exact hdn)
      refine ⟨_, _, _, hcell.trans hj0, Nat.le_refl _, ?_⟩
      obtain ⟨b, b', e', h5, h6, h7, h8, _⟩ := hag R hR
      rw [hrow] at h5
      injection h5 with h5
      injection h5 with h5 h9
      subst h5 h9
      have hkeep : ∀ o, (∀ i', o ≠ i' * 5 + 4) → b'[o]? = arr[o]? := fun o ho => h8 o (by
        rw [List.map_append, List.mem_append]
        rintro (hx | hx)
        · obtain ⟨j', hj', e1⟩ := List.mem_map.1 hx
          obtain ⟨_, i', e2⟩ := hNJ j' hj'
          rw [e2] at e1
          injection e1 with _ e1
          exact ho i' e1.symm
        · obtain ⟨j', hj', e1⟩ := List.mem_map.1 hx
          have := hSD j' hj'
          rw [e1] at this
          exact hRD this)
      have hattr : ∀ (A1 : Option Addr) (n1 : Nat) (ys : List Value), RdP w' (AtB w' D') 2 A1 n1 ys → RdP w2 (AtB w2 D2) 2 A1 n1 ys := by
        intro A1 n1 ys r4
        refine ⟨r4.1, fun hn => ?_⟩
        obtain ⟨a1, e1, h10, h11⟩ := r4.2 hn
        obtain ⟨x, x', e3, h12, h13, _, _, h15⟩ := hag a1.block h10.1
        obtain ⟨y, h16⟩ := h10.2
        rw [h16] at h12
        injection h12 with h12
        injection h12 with h12 h17
        subst h12 h17
        have h18 := h15 rfl
        subst h18
        refine ⟨a1, e1, ⟨hD2 _ h10.1, _, h13⟩, fun o u hu => ?_⟩
        rw [World.cell?_of_block (w := w') (by rw [block_add, h13, h16])]
        exact h11 o u hu
      refine ⟨?_, R, b', rfl, hD2 _ hR, h6, by rw [h7, hsz], fun i hi => ?_⟩
      rotate_left
      · obtain ⟨A1, n1, c1, r0, r1, r2, r3, r4, r5, r6, r7⟩ := hat i hi
        exact ⟨A1, n1, c1, (hkeep _ (by omega)).trans r2, r3, hattr _ _ _ r4⟩
      refine ⟨b'.toList, ⟨by rw [Array.length_toList, h7, hsz], fun _ => ⟨_, rfl, hD2 _ hR, fun o u hu => ?_⟩⟩, NsIsP.build (by rw [Array.length_toList, h7, hsz]) fun i hi => ?_⟩
      · rw [add_zero_off, Lib.cell_of_heap h6]
        simpa using hu
      · obtain ⟨A1, n1, c1, r0, r1, r2, r3, r4, r5, r6, r7⟩ := hat i hi
        have k0 : b'.toList[i * 5]? = some (.int .i64 j.trees[i].kind) := by rw [Array.getElem?_toList, hkeep _ (by omega)]; exact r0
        have k1 : b'.toList[i * 5 + 1]? = some (sv j.trees[i].name) := by rw [Array.getElem?_toList, hkeep _ (by omega)]; exact r1
        have k2 : b'.toList[i * 5 + 2]? = some (.slice A1 n1 c1) := by rw [Array.getElem?_toList, hkeep _ (by omega)]; exact r2
        have k3 : b'.toList[i * 5 + 3]? = some (sv j.trees[i].text) := by rw [Array.getElem?_toList, hkeep _ (by omega)]; exact r5
        have hats : RdP w2 D2 2 A1 n1 (atrCells j.trees[i].attrs) := (hattr _ _ _ r4).more fun q hq => hq.1
        generalize hnd : j.trees[i] = nd at *
        obtain ⟨kd, nm, ats, tx, kids⟩ := nd
        by_cases hkids : kids = []
        · subst hkids
          obtain ⟨r8, r9⟩ := r6 rfl
          have k4 : b'.toList[i * 5 + 4]? = some (.slice none 0 0) := by
            rw [Array.getElem?_toList, h8 _ ?_]
            · exact r8
            · rw [List.map_append, List.mem_append]
              rintro (hx | hx)
              · obtain ⟨j', hj', e1⟩ := List.mem_map.1 hx
                exact r9 j' hj' e1
              · obtain ⟨j', hj', e1⟩ := List.mem_map.1 hx
                have := hSD j' hj'
                rw [e1] at this
                exact hRD this
          rw [five_cells k0 k1 k2 k3 k4]
          exact NIsP.mk' r3 hats (Nat.le_refl 0) (NodesP.nil _ _ _)
        · obtain ⟨j', hj', r8, r9⟩ := r7 hkids
          obtain ⟨A2, n2, c2, r10, r11, r12, _⟩ := hrd j' (List.mem_append_left _ hj')
          rw [r8, Lib.cell_of_heap h6] at r10
          have k4 : b'.toList[i * 5 + 4]? = some (.slice A2 n2 c2) := by rw [Array.getElem?_toList]; exact r10
          rw [five_cells k0 k1 k2 k3 k4]
          rw [r9] at r12
          exact NIsP.mk' r3 hats r11 r12
    · exact hrd j (List.mem_append_right _ hj)
end Go.Proofs.YtnkelhmjkmeilaaGreatDoor.K
end
