/- Plain: what a finder that has come to its end has found, in trees. -/
import Derived.Test.YtbipdnnalhdoaaaHn
namespace Go.Proofs.Ytbipdnnalhdoaaa

theorem addC_eq' {a b c : Nat} (h : c = addC a b) (hc : c < topC) : c = a + b := by
  unfold addC at h
  split at h
  · omega
  · exact h
theorem thrT_snoc {M : Mc} {n s v : Nat} {l : List Tr} {t : Tr} (h : thrT M n 0 l = some s) (h2 : stT M t = some v) : thrT M n 0 (l ++ [t]) = some (M.nx n s v) := by
  rw [thrT_append, h, Option.bind_some, thrT, h2]
  show thrT M n _ [] = _
  rw [thrT]
theorem Rd'.tree {M : Mc} {N n s c : Nat} (h : Rd' M N n s c) : ∃ l, thrT M n 0 l = some s := by
  induction h with
  | start _ => exact ⟨[], rfl⟩
  | @step n s c n2 s2 c2 _ h2 _ ih1 ih2 =>
    obtain ⟨l1, e1⟩ := ih1
    obtain ⟨l2, e2⟩ := ih2
    refine ⟨l1 ++ [.mk (n2 : Int) l2], thrT_snoc e1 ?_⟩
    rw [stT_mk M h2, e2]
    rfl
theorem Paths.trees {M : Mc} {f : FS} (hP : Paths M f) : ∀ (b n s : Nat) (k : Stp), f.mar n s = some (k, true) → k.cost < b → b ≤ topC → ∃ l, thrT M n 0 l = some s ∧ wtTs l = k.cost := by
  intro b
  induction b with
  | zero => intro n s k _ h; omega
  | succ b ih =>
    intro n s k hk hc hb
    obtain ⟨p1, p2, p3, p4, p5, p6⟩ := hP.mks n s k hk
    rcases p6 with ⟨r1, r2, r3⟩ | ⟨s0, v, k0, src, r1, r2, r3, r4, r5, r6⟩
    · exact ⟨[], by rw [← p2, r1]; rfl, by rw [r2]; rfl⟩
    · obtain ⟨g1, g2, k2, g3, g4⟩ := hP.fn v src r4
      rw [p1] at r3 r6
      have hge := addC_ge' (a := k0.cost) (b := src.cost) (by rw [g4]; exact addC_le _ _)
      have e1 : src.cost = k2.cost + 1 := addC_eq' g4 (by omega)
      have e2 : k.cost = k0.cost + src.cost := addC_eq' r5 (by omega)
      obtain ⟨l0, h1, h2⟩ := ih n s0 k0 r3 (by omega) (by omega)
      obtain ⟨l2, h3, h4⟩ := ih _ _ k2 g3 (by omega) (by omega)
      refine ⟨l0 ++ [.mk src.num l2], ?_, ?_⟩
      · have := thrT_snoc (t := .mk src.num l2) (v := v) h1 (by rw [stT_mk M g1, h3, Option.map_some, g2])
        rw [this, r6, p2]
      · rw [wtTs_append, wtTs, wtTs, wtT]; omega
/-- what a tree's state costs -/
def costF (f : FS) (v : Nat) : Int := match f.fnd v with
  | none => -1
  | some s => (s.cost : Int)
/-- the costs are right: each is met, none is less; and they go on -/
structure CostsP (M : Mc) (c : Nat → Int) : Prop where
  none : ∀ v, c v < 0 → c v = -1 ∧ ∀ t, stT M t = some v → topC ≤ wtT t
  some : ∀ v, 0 ≤ c v → 1 ≤ c v ∧ c v ≤ topC ∧ (∃ t, stT M t = Option.some v) ∧ (c v < topC → ∃ t, stT M t = Option.some v ∧ (wtT t : Int) = c v) ∧ ∀ t, stT M t = Option.some v → c v ≤ wtT t
  bare : ∀ i, i < M.L → c (M.out i 0) = 1
  on : ∀ i v, i < M.L → 0 ≤ c v → 0 ≤ c (M.out i (M.nx i 0 v)) ∧ c (M.out i (M.nx i 0 v)) ≤ c v + 1
theorem FInv.costs {M : Mc} {cur : Nat} {f : FS} (hO : M.Ok) (hI : FInv M M.L M.L cur f (fun _ _ _ => False) (fun _ _ => False)) (hq : f.q = []) : CostsP M (costF f) := by
  have hN : M.L ≤ M.L + 1 := Nat.le_succ _
  have hdone : ∀ n s k d, f.mar n s = some (k, d) → d = true := fun n s k d hk => by
    cases d with
    | true => rfl
    | false => have := hI.und n s k hk; rw [hq] at this; cases this
  have hP := hI.paths hO hN
  have hmin : ∀ t v, stT M t = some v → (∃ src, f.fnd v = some src ∧ src.cost ≤ wtT t) ∨ topC ≤ wtT t := fun t v ht => by
    obtain ⟨n, s, c, hn, hr, ho, hc⟩ := (Rd'.of_trees (M := M) (N := M.L) (Nat.le_refl _)).1 t v ht
    rcases hI.least hO hN (c := topC) (fun x hx => by rw [hq] at hx; cases hx) (Nat.le_refl _) hr with ⟨k, hk, hkc⟩ | h9
    · obtain ⟨src, hs, hsc⟩ := hI.told n s k hk hn (fun h => h)
      rw [ho] at hs
      exact .inl ⟨src, hs, Nat.le_trans hsc (Nat.le_trans (addC_mono hkc (Nat.le_refl _)) hc)⟩
    · right
      have : topC ≤ addC c 1 := by unfold addC; split <;> omega
      omega
  refine ⟨fun v hv => ?_, fun v hv => ?_, fun i hi => ?_, fun i v hi hv => ?_⟩
  · unfold costF at hv ⊢
    cases hf : f.fnd v with
    | some src => rw [hf] at hv; simp only at hv; omega
    | none =>
      refine ⟨rfl, fun t ht => ?_⟩
      rcases hmin t v ht with ⟨src, hs, _⟩ | h
      · rw [hf] at hs; cases hs
      · exact h
  · unfold costF at hv ⊢
    cases hf : f.fnd v with
    | none => rw [hf] at hv; simp at hv
    | some src =>
      simp only
      obtain ⟨g1, g2, k2, g3, g4⟩ := hP.fn v src hf
      obtain ⟨_, _, _, _, hkt, _⟩ := hP.mks _ _ _ g3
      obtain ⟨_, _, hr, _⟩ := hI.ms _ _ _ _ g3
      have hle : src.cost ≤ topC := by rw [g4]; exact addC_le _ _
      refine ⟨?_, by omega, ?_, fun hlt => ?_, fun t ht => ?_⟩
      · have := addC_ge' (a := k2.cost) (b := 1) (by unfold topC; omega)
        omega
      · obtain ⟨l, hl⟩ := hr.tree
        exact ⟨.mk src.num l, by rw [stT_mk M g1, hl, Option.map_some, g2]⟩
      · have e1 : src.cost = k2.cost + 1 := addC_eq' g4 (by omega)
        obtain ⟨l, hl, hw⟩ := hP.trees topC _ _ k2 g3 (by omega) (Nat.le_refl _)
        exact ⟨.mk src.num l, by rw [stT_mk M g1, hl, Option.map_some, g2], by rw [wtT]; omega⟩
      · rcases hmin t v ht with ⟨s', hs, hsc⟩ | h
        · rw [hf] at hs; injection hs with hs; subst hs; omega
        · omega
  · obtain ⟨k, d, hk, h0⟩ := hI.beg i hi
    have hd := hdone _ _ _ _ hk
    subst hd
    obtain ⟨src, hs, hsc⟩ := hI.told i 0 k hk hi (fun h => h)
    unfold costF
    rw [hs]
    simp only
    obtain ⟨g1, g2, k2, g3, g4⟩ := hP.fn _ _ hs
    have := addC_ge' (a := k2.cost) (b := 1) (by unfold topC; omega)
    have h1 : addC k.cost 1 = 1 := by rw [h0]; rfl
    omega
  · unfold costF at hv ⊢
    cases hf : f.fnd v with
    | none => rw [hf] at hv; simp at hv
    | some src =>
      obtain ⟨k, d, hk, h0⟩ := hI.beg i hi
      have hd := hdone _ _ _ _ hk
      subst hd
      obtain ⟨k', d', hk', hc'⟩ := hI.clo i 0 k v src hk hf (fun h => h)
      have hd := hdone _ _ _ _ hk'
      subst hd
      obtain ⟨src', hs', hsc'⟩ := hI.told _ _ _ hk' hi (fun h => h)
      rw [hs']
      simp only
      have h1 : addC k.cost src.cost ≤ src.cost := by rw [h0]; unfold addC; split <;> omega
      have h2 : addC k'.cost 1 ≤ k'.cost + 1 := by unfold addC; split <;> omega
      omega
end Go.Proofs.Ytbipdnnalhdoaaa
