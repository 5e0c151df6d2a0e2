/- Plain: what the finder has found; each step keeps it. Plain: trees, what a machine makes of them, what they weigh; trees as cells; where the finder's marks lead to. State, Accepts, of the program. -/
import Derived.Test.YtnkelhmjkmeilaaGreatDoorT19
import Derived.Test.YtnkelhmjkmeilaaGreatDoorT17
import Derived.Test.YtnkelhmjkmeilaaGreatDoorT16
section
namespace Go.Proofs.YtnkelhmjkmeilaaGreatDoor.H
inductive Rd' (M : Mc) (N : Nat) : Nat → Nat → Nat → Prop
  | start {n : Nat} : n < N → Rd' M N n 0 0
  | step {n s c n2 s2 c2 : Nat} : Rd' M N n s c → n2 < M.L → Rd' M N n2 s2 c2 → Rd' M N n (M.nx n s (M.out n2 s2)) (addC c (addC c2 1))
theorem Rd'.fin {M : Mc} {N n s c : Nat} (hO : M.Ok) (hN : N ≤ M.L + 1) (h : Rd' M N n s c) : n < N ∧ s < M.sz n ∧ c ≤ topC := by
  induction h with
  | start h => exact ⟨h, hO.pos _ (by omega), by unfold topC; omega⟩
  | step h1 h2 h3 ih1 ih2 => exact ⟨ih1.1, hO.nx _ _ _ (by omega) ih1.2.1 (hO.out _ _ h2 ih2.2.1), addC_le _ _⟩
theorem addC_mono {a b c d : Nat} (h : a ≤ c) (h' : b ≤ d) : addC a b ≤ addC c d := by unfold addC; split <;> split <;> omega
theorem addC_ge {a b : Nat} (h : a ≤ topC) : a ≤ addC a b := by unfold addC; split <;> omega
theorem addC_ge' {a b : Nat} (h : b ≤ topC) : b ≤ addC a b := by unfold addC; split <;> omega
def Chain (M : Mc) (f : FS) (k : Stp) : Prop := (k.st = 0 ∧ k.cost = 0 ∧ k.tree = -1) ∨
  ∃ s0 v k0 src, k.frm = ((s0 : Nat) : Int) ∧ k.tree = ((v : Nat) : Int) ∧ f.mar k.num s0 = some (k0, true) ∧ f.fnd v = some src ∧ k.cost = addC k0.cost src.cost ∧ M.nx k.num s0 v = k.st
def Grows (f f' : FS) : Prop := (∀ n s k, f.mar n s = some (k, true) → f'.mar n s = some (k, true)) ∧ ∀ v src, f.fnd v = some src → f'.fnd v = some src
theorem Chain.grows {M : Mc} {f f' : FS} {k : Stp} (h : Chain M f k) (hg : Grows f f') : Chain M f' k := by
  rcases h with h | ⟨s0, v, k0, src, h1, h2, h3, h4, h5, h6⟩
  · exact .inl h
  · exact .inr ⟨s0, v, k0, src, h1, h2, hg.1 _ _ _ h3, hg.2 _ _ h4, h5, h6⟩
structure FInv (M : Mc) (N J cur : Nat) (f : FS) (P : Nat → Nat → Nat → Prop) (X : Nat → Nat → Prop) : Prop where
  ml : f.met.length = N
  ms : ∀ n s k d, f.mar n s = some (k, d) → k.num = n ∧ k.st = s ∧ Rd' M N n s k.cost ∧ Chain M f k
  qs : ∀ x ∈ f.q, Rd' M N x.num x.st x.cost ∧ Chain M f x ∧ cur ≤ x.cost ∧ ∃ k d, f.mar x.num x.st = some (k, d) ∧ k.cost ≤ x.cost
  und : ∀ n s k, f.mar n s = some (k, false) → k ∈ f.q
  dn : ∀ n s k, f.mar n s = some (k, true) → k.cost ≤ cur ∧ ∀ c, Rd' M N n s c → k.cost ≤ c
  met : ∀ n (hn : n < f.met.length) s, s ∈ f.met[n] ↔ ∃ k, f.mar n s = some (k, true)
  mnd : ∀ n (hn : n < f.met.length), f.met[n].Nodup
  beg : ∀ n, n < J → ∃ k d, f.mar n 0 = some (k, d) ∧ k.cost = 0
  fn : ∀ v src, f.fnd v = some src → src.num < M.L ∧ M.out src.num src.st = v ∧ ∃ k, f.mar src.num src.st = some (k, true) ∧ src.cost = addC k.cost 1
  tr : ∀ v, v ∈ f.trees ↔ ∃ src, f.fnd v = some src
  tnd : f.trees.Nodup
  told : ∀ n s k, f.mar n s = some (k, true) → n < M.L → ¬ X n s → ∃ src, f.fnd (M.out n s) = some src ∧ src.cost ≤ addC k.cost 1
  clo : ∀ n s k v src, f.mar n s = some (k, true) → f.fnd v = some src → ¬ P n s v → ∃ k' d', f.mar n (M.nx n s v) = some (k', d') ∧ k'.cost ≤ addC k.cost src.cost
section
variable {M : Mc} {N J cur n0 s0 : Nat} {f f' : FS} {P P' : Nat → Nat → Nat → Prop} {X X' : Nat → Nat → Prop}
theorem FInv.weak (h : FInv M N J cur f P X) (hP : ∀ n s v k src, f.mar n s = some (k, true) → f.fnd v = some src → P n s v → P' n s v) (hX : ∀ n s k, f.mar n s = some (k, true) → X n s → X' n s) : FInv M N J cur f P' X' :=
  ⟨h.ml, h.ms, h.qs, h.und, h.dn, h.met, h.mnd, h.beg, h.fn, h.tr, h.tnd, fun n s k h1 h2 h3 => h.told n s k h1 h2 fun h4 => h3 (hX n s k h1 h4), fun n s k v src h1 h2 h3 => h.clo n s k v src h1 h2 fun h4 => h3 (hP n s v k src h1 h2 h4)⟩
theorem FInv.lt (hO : M.Ok) (hN : N ≤ M.L + 1) (h : FInv M N J cur f P X) {n s : Nat} {k : Stp} {d : Bool} (hk : f.mar n s = some (k, d)) : n < N ∧ s < M.sz n ∧ k.cost ≤ topC := (h.ms n s k d hk).2.2.1.fin hO hN
theorem put_grows {s : Stp} (h : PutR f s f') : Grows f f' ∧ f'.met = f.met ∧ f'.trees = f.trees ∧ f'.fnd = f.fnd ∧ f'.q.length ≤ f.q.length + 1 ∧ (Heap f.q → Heap f'.q) ∧ ∀ n t k, f'.mar n t = some (k, true) → f.mar n t = some (k, true) := by
  rcases h with ⟨k, d, _, _, rfl⟩ | ⟨h1, q', h2, h3, rfl⟩
  · exact ⟨⟨fun _ _ _ h => h, fun _ _ h => h⟩, rfl, rfl, rfl, by omega, id, fun _ _ _ h => h⟩
  · refine ⟨⟨fun n t k hk => ?_, fun _ _ h => h⟩, rfl, rfl, rfl, by rw [h2.length_eq]; simp, fun _ => h3, fun n t k hk => ?_⟩
    · show upM f.mar s.num s.st (s, false) n t = _
      unfold upM
      split
      · rename_i h9
        obtain ⟨rfl, rfl⟩ := h9
        have := (h1 k true hk).1
        cases this
      · exact hk
    · change upM f.mar s.num s.st (s, false) n t = some (k, true) at hk
      unfold upM at hk
      split at hk
      · injection hk with hk; injection hk with _ hk; cases hk
      · exact hk
theorem FInv.put (h : FInv M N J cur f P X) {s : Stp} (hp : PutR f s f') (hr : Rd' M N s.num s.st s.cost) (hc : Chain M f s) (hcur : cur ≤ s.cost) : FInv M N J cur f' P X ∧ ∃ k d, f'.mar s.num s.st = some (k, d) ∧ k.cost ≤ s.cost := by
  obtain ⟨hg, e1, e2, e3, _, _, hdn⟩ := put_grows hp
  rcases hp with ⟨k, d, hk, hd, rfl⟩ | ⟨h1, q', h2, h3, rfl⟩
  · refine ⟨h, k, d, hk, ?_⟩
    rcases hd with rfl | hd
    · exact (h.dn _ _ _ hk).2 _ hr
    · exact hd
  · have hup : ∀ n t, upM f.mar s.num s.st (s, false) n t = if n = s.num ∧ t = s.st then some (s, false) else f.mar n t := fun n t => rfl
    have hsame : upM f.mar s.num s.st (s, false) s.num s.st = some (s, false) := by rw [hup, if_pos ⟨rfl, rfl⟩]
    have hkeep : ∀ n t k d, f.mar n t = some (k, d) → ∃ k' d', upM f.mar s.num s.st (s, false) n t = some (k', d') ∧ k'.cost ≤ k.cost := fun n t k d hk => by
      rw [hup]
      split
      · rename_i h9
        obtain ⟨rfl, rfl⟩ := h9
        exact ⟨s, false, rfl, Nat.le_of_lt (h1 k d hk).2⟩
      · exact ⟨k, d, hk, Nat.le_refl _⟩
    have hmem : ∀ x, x ∈ q' ↔ x = s ∨ x ∈ f.q := fun x => by rw [h2.mem_iff, List.mem_cons]
    refine ⟨⟨h.ml, fun n t k d hk => ?_, fun x hx => ?_, fun n t k hk => ?_, fun n t k hk => h.dn n t k (hdn n t k hk), fun n hn t => ?_, h.mnd, fun n hn => ?_, fun v src hv => ?_, h.tr, h.tnd, fun n t k hk => h.told n t k (hdn n t k hk), fun n t k v src hk hv hP => ?_⟩, s, false, hsame, Nat.le_refl _⟩
    · change upM f.mar s.num s.st (s, false) n t = some (k, d) at hk
      rw [hup] at hk
      split at hk
      · rename_i h9
        obtain ⟨rfl, rfl⟩ := h9
        injection hk with hk
        injection hk with hk _
        subst hk
        exact ⟨rfl, rfl, hr, hc.grows hg⟩
      · obtain ⟨a, b, c, e⟩ := h.ms n t k d hk
        exact ⟨a, b, c, e.grows hg⟩
    · rcases (hmem x).1 hx with rfl | hx
      · exact ⟨hr, hc.grows hg, hcur, x, false, hsame, Nat.le_refl _⟩
      · obtain ⟨a, b, c, k, d, e, e'⟩ := h.qs x hx
        obtain ⟨k', d', e5, e6⟩ := hkeep _ _ _ _ e
        exact ⟨a, b.grows hg, c, k', d', e5, Nat.le_trans e6 e'⟩
    · change upM f.mar s.num s.st (s, false) n t = some (k, false) at hk
      rw [hup] at hk
      split at hk
      · injection hk with hk
        injection hk with hk _
        subst hk
        exact (hmem _).2 (.inl rfl)
      · exact (hmem _).2 (.inr (h.und n t k hk))
    · rw [h.met n hn t]
      exact ⟨fun ⟨k, hk⟩ => ⟨k, hg.1 _ _ _ hk⟩, fun ⟨k, hk⟩ => ⟨k, hdn _ _ _ hk⟩⟩
    · obtain ⟨k, d, hk, h0⟩ := h.beg n hn
      obtain ⟨k', d', e5, e6⟩ := hkeep _ _ _ _ hk
      exact ⟨k', d', e5, by omega⟩
    · obtain ⟨a, b, k, c, e⟩ := h.fn v src hv
      exact ⟨a, b, k, hg.1 _ _ _ c, e⟩
    · obtain ⟨k', d', a, b⟩ := h.clo n t k v src (hdn n t k hk) hv hP
      obtain ⟨k'', d'', e5, e6⟩ := hkeep _ _ _ _ a
      exact ⟨k'', d'', e5, Nat.le_trans e6 b⟩
theorem FInv.goOn (_hO : M.Ok) (_hN : N ≤ M.L + 1) (h : FInv M N J cur f P X) {n s v : Nat} {k : Stp} {src : Src} (hk : f.mar n s = some (k, true)) (hs : f.fnd v = some src) (hcur : cur ≤ addC k.cost src.cost) (hp : PutR f ⟨n, M.nx n s v, addC k.cost src.cost, s, v⟩ f') :
    FInv M N J cur f' (fun a b c => P a b c ∧ ¬ (a = n ∧ b = s ∧ c = v)) X := by
  obtain ⟨h1, h2, h3, _⟩ := h.ms n s k true hk
  obtain ⟨g1, g2, k2, g3, g4⟩ := h.fn v src hs
  obtain ⟨_, _, h5, _⟩ := h.ms _ _ _ _ g3
  have hr : Rd' M N n (M.nx n s v) (addC k.cost src.cost) := by
    rw [← g2, g4]
    exact Rd'.step h3 g1 h5
  obtain ⟨hI, k', d', hk', hc'⟩ := h.put hp hr (.inr ⟨s, v, k, src, rfl, rfl, hk, hs, rfl, rfl⟩) hcur
  obtain ⟨hg, e1, e2, e3, _, _, hdn⟩ := put_grows hp
  refine ⟨hI.ml, hI.ms, hI.qs, hI.und, hI.dn, hI.met, hI.mnd, hI.beg, hI.fn, hI.tr, hI.tnd, hI.told, fun a b ka c sc ha hc hP => ?_⟩
  by_cases he : a = n ∧ b = s ∧ c = v
  · obtain ⟨rfl, rfl, rfl⟩ := he
    have ha' := hdn _ _ _ ha
    rw [hk] at ha'
    injection ha' with ha'
    injection ha' with ha' _
    subst ha'
    rw [e3, hs] at hc
    injection hc with hc
    subst hc
    exact ⟨k', d', hk', hc'⟩
  · exact hI.clo a b ka c sc ha hc fun h9 => hP ⟨h9, he⟩
theorem FInv.least (hO : M.Ok) (hN : N ≤ M.L + 1) (h : FInv M N N cur f (fun _ _ _ => False) (fun _ _ => False)) {c : Nat} (hc : ∀ x ∈ f.q, c ≤ x.cost) (_hct : c ≤ topC) {n s c' : Nat} (hr : Rd' M N n s c') : (∃ k, f.mar n s = some (k, true) ∧ k.cost ≤ c') ∨ c ≤ c' := by
  have hmk : ∀ n s k d, f.mar n s = some (k, d) → (∃ k, f.mar n s = some (k, true) ∧ k.cost ≤ k.cost) ∨ c ≤ k.cost := fun n s k d hk => by
    cases d with
    | true => exact .inl ⟨k, hk, Nat.le_refl _⟩
    | false => exact .inr (hc k (h.und n s k hk))
  induction hr with
  | start hn =>
    obtain ⟨k, d, hk, h0⟩ := h.beg _ hn
    cases d with
    | true => exact .inl ⟨k, hk, by omega⟩
    | false => exact .inr (by have := hc k (h.und _ _ k hk); omega)
  | @step n s c1 n2 s2 c2 h1 h2 h3 ih1 ih2 =>
    have f1 := h1.fin hO hN
    have f2 := h3.fin hO hN
    rcases ih1 with ⟨k1, e1, e2⟩ | e1
    · rcases ih2 with ⟨k2, e3, e4⟩ | e3
      · obtain ⟨src, e5, e6⟩ := h.told _ _ _ e3 h2 (fun h => h)
        obtain ⟨k', d', e7, e8⟩ := h.clo _ _ _ _ _ e1 e5 (fun h => h)
        have e9 : k'.cost ≤ addC c1 (addC c2 1) := Nat.le_trans e8 (addC_mono e2 (Nat.le_trans e6 (addC_mono e4 (Nat.le_refl _))))
        cases d' with
        | true => exact .inl ⟨k', e7, e9⟩
        | false => exact .inr (Nat.le_trans (hc k' (h.und _ _ _ e7)) e9)
      · exact .inr (Nat.le_trans e3 (Nat.le_trans (addC_ge f2.2.2) (addC_ge' (addC_le _ _))))
    · exact .inr (Nat.le_trans e1 (addC_ge f1.2.2))
theorem FInv.skip (h : FInv M N J cur f P X) {s k : Stp} {q' : List Stp} (hq : f.q.Perm (s :: q')) (hk : f.mar s.num s.st = some (k, true)) : FInv M N J cur { f with q := q' } P X := by
  have hmem : ∀ x, x ∈ q' → x ∈ f.q := fun x hx => hq.mem_iff.2 (List.mem_cons_of_mem _ hx)
  refine ⟨h.ml, h.ms, fun x hx => h.qs x (hmem x hx), fun n t k' hk' => ?_, h.dn, h.met, h.mnd, h.beg, h.fn, h.tr, h.tnd, h.told, h.clo⟩
  have h1 := h.und n t k' hk'
  obtain ⟨e1, e2, _⟩ := h.ms n t k' false hk'
  rcases List.mem_cons.1 (hq.mem_iff.1 h1) with rfl | h2
  · rw [e1, e2] at hk
    rw [hk'] at hk
    injection hk with hk
    injection hk with _ hk
    cases hk
  · exact h2
def metAdd (m : List (List Nat)) (n s : Nat) : List (List Nat) := m.set n (m.getD n [] ++ [s])
theorem metAdd_length (m : List (List Nat)) (n s : Nat) : (metAdd m n s).length = m.length := by simp [metAdd]
theorem metAdd_at {m : List (List Nat)} {n s i : Nat} (hi : i < (metAdd m n s).length) : (metAdd m n s)[i] = if i = n then m[i]'(by simpa [metAdd] using hi) ++ [s] else m[i]'(by simpa [metAdd] using hi) := by
  have hi' : i < m.length := by simpa [metAdd] using hi
  simp only [metAdd, List.getElem_set]
  by_cases h : n = i
  · subst h
    rw [if_pos rfl, if_pos rfl]
    simp [List.getD, List.getElem?_eq_getElem hi']
  · rw [if_neg h, if_neg (fun e => h e.symm)]
theorem FInv.done (hO : M.Ok) (hN : N ≤ M.L + 1) (h : FInv M N N cur f (fun _ _ _ => False) (fun _ _ => False)) {s : Stp} {q' : List Stp} (hq : f.q.Perm (s :: q')) (hmin : ∀ x ∈ f.q, s.cost ≤ x.cost) (hnd : ∀ k, f.mar s.num s.st ≠ some (k, true)) :
    FInv M N N s.cost { f with q := q', mar := upM f.mar s.num s.st (s, true), met := metAdd f.met s.num s.st } (fun a b _ => a = s.num ∧ b = s.st) (fun a b => a = s.num ∧ b = s.st) := by
  have hsq : s ∈ f.q := hq.mem_iff.2 (List.mem_cons_self)
  obtain ⟨hr, hc, hcur, k, d, hk, hks⟩ := h.qs s hsq
  have hd : d = false := by
    cases d with
    | false => rfl
    | true => exact absurd hk (hnd k)
  subst hd
  have hkq := hmin k (h.und _ _ _ hk)
  have hfin := hr.fin hO hN
  have hup : ∀ n t, upM f.mar s.num s.st (s, true) n t = if n = s.num ∧ t = s.st then some (s, true) else f.mar n t := fun n t => rfl
  have hg : Grows f { f with q := q', mar := upM f.mar s.num s.st (s, true), met := metAdd f.met s.num s.st } := by
    refine ⟨fun n t k' hk' => ?_, fun _ _ h => h⟩
    show upM f.mar s.num s.st (s, true) n t = _
    rw [hup]
    split
    · rename_i h9
      obtain ⟨rfl, rfl⟩ := h9
      exact absurd hk' (hnd k')
    · exact hk'
  have hkeep : ∀ n t k d, f.mar n t = some (k, d) → ∃ k' d', upM f.mar s.num s.st (s, true) n t = some (k', d') ∧ k'.cost ≤ k.cost := fun n t k0 d0 hk0 => by
    rw [hup]
    split
    · rename_i h9
      obtain ⟨rfl, rfl⟩ := h9
      rw [hk] at hk0
      injection hk0 with hk0
      injection hk0 with hk0 _
      subst hk0
      exact ⟨s, true, rfl, hkq⟩
    · exact ⟨k0, d0, hk0, Nat.le_refl _⟩
  have hinv : ∀ n t k', upM f.mar s.num s.st (s, true) n t = some (k', true) → (n = s.num ∧ t = s.st ∧ k' = s) ∨ (¬ (n = s.num ∧ t = s.st) ∧ f.mar n t = some (k', true)) := fun n t k' hk' => by
    rw [hup] at hk'
    split at hk'
    · rename_i h9
      injection hk' with hk'
      injection hk' with hk' _
      exact .inl ⟨h9.1, h9.2, hk'.symm⟩
    · rename_i h9
      exact .inr ⟨h9, hk'⟩
  refine ⟨by rw [metAdd_length]; exact h.ml, fun n t k' d' hk' => ?_, fun x hx => ?_, fun n t k' hk' => ?_, fun n t k' hk' => ?_, fun n hn t => ?_, fun n hn => ?_, fun n hn => ?_, fun v src hv => ?_, h.tr, h.tnd, fun n t k' hk' hL hX => ?_, fun n t k' v src hk' hv hP => ?_⟩
  · change upM f.mar s.num s.st (s, true) n t = some (k', d') at hk'
    rw [hup] at hk'
    split at hk'
    · rename_i h9
      injection hk' with hk'
      injection hk' with hk' _
      subst hk'
      obtain ⟨rfl, rfl⟩ := h9
      exact ⟨rfl, rfl, hr, hc.grows hg⟩
    · obtain ⟨a, b, c, e⟩ := h.ms n t k' d' hk'
      exact ⟨a, b, c, e.grows hg⟩
  · have hx' : x ∈ f.q := hq.mem_iff.2 (List.mem_cons_of_mem _ hx)
    obtain ⟨a, b, c, k', d', e, e'⟩ := h.qs x hx'
    obtain ⟨k'', d'', e5, e6⟩ := hkeep _ _ _ _ e
    exact ⟨a, b.grows hg, hmin x hx', k'', d'', e5, Nat.le_trans e6 e'⟩
  · change upM f.mar s.num s.st (s, true) n t = some (k', false) at hk'
    rw [hup] at hk'
    split at hk'
    · injection hk' with hk'
      injection hk' with _ hk'
      cases hk'
    · rename_i h9
      obtain ⟨e1, e2, _⟩ := h.ms n t k' false hk'
      rcases List.mem_cons.1 (hq.mem_iff.1 (h.und n t k' hk')) with h2 | h2
      · rw [h2] at e1 e2
        exact absurd ⟨e1.symm, e2.symm⟩ h9
      · exact h2
  · rcases hinv n t k' hk' with ⟨rfl, rfl, rfl⟩ | ⟨_, hk'⟩
    · refine ⟨Nat.le_refl _, fun c hc' => ?_⟩
      rcases h.least hO hN hmin hfin.2.2 hc' with ⟨k2, e1, _⟩ | e1
      · exact absurd e1 (hnd k2)
      · exact e1
    · exact ⟨Nat.le_trans (h.dn n t k' hk').1 hcur, (h.dn n t k' hk').2⟩
  · have hn' : n < f.met.length := by simpa [metAdd] using hn
    show t ∈ (metAdd f.met s.num s.st)[n] ↔ ∃ k, upM f.mar s.num s.st (s, true) n t = some (k, true)
    rw [metAdd_at hn]
    have hold := h.met n hn' t
    split
    · rename_i h9
      subst h9
      rw [List.mem_append, List.mem_singleton, hold]
      constructor
      · rintro (⟨k', hk'⟩ | rfl)
        · exact ⟨k', hg.1 _ _ _ hk'⟩
        · exact ⟨s, by rw [hup, if_pos ⟨rfl, rfl⟩]⟩
      · rintro ⟨k', hk'⟩
        rcases hinv _ t k' hk' with ⟨_, rfl, _⟩ | ⟨_, hk'⟩
        · exact .inr rfl
        · exact .inl ⟨k', hk'⟩
    · rename_i h9
      rw [hold]
      constructor
      · rintro ⟨k', hk'⟩
        exact ⟨k', hg.1 _ _ _ hk'⟩
      · rintro ⟨k', hk'⟩
        rcases hinv n t k' hk' with ⟨e, _⟩ | ⟨_, hk'⟩
        · exact absurd e h9
        · exact ⟨k', hk'⟩
  · have hn' : n < f.met.length := by simpa [metAdd] using hn
    show ((metAdd f.met s.num s.st)[n]).Nodup
    rw [metAdd_at hn]
    split
    · rename_i h9
      rw [List.nodup_append]
      refine ⟨h.mnd n hn', by simp, fun a ha b hb e => ?_⟩
      rw [List.mem_singleton] at hb
      have ha' : s.st ∈ f.met[n] := by rw [← hb, ← e]; exact ha
      obtain ⟨k', hk'⟩ := (h.met n hn' s.st).1 ha'
      rw [h9] at hk'
      exact hnd k' hk'
    · exact h.mnd n hn'
  · obtain ⟨k', d', hk', h0⟩ := h.beg n hn
    obtain ⟨k'', d'', e5, e6⟩ := hkeep _ _ _ _ hk'
    exact ⟨k'', d'', e5, by omega⟩
  · obtain ⟨a, b, k', c, e⟩ := h.fn v src hv
    exact ⟨a, b, k', hg.1 _ _ _ c, e⟩
  · rcases hinv n t k' hk' with ⟨e1, e2, _⟩ | ⟨_, hk'⟩
    · exact absurd ⟨e1, e2⟩ hX
    · exact h.told n t k' hk' hL (fun h => h)
  · rcases hinv n t k' hk' with ⟨e1, e2, _⟩ | ⟨_, hk'⟩
    · exact absurd ⟨e1, e2⟩ hP
    · obtain ⟨k2, d2, a, b⟩ := h.clo n t k' v src hk' hv (fun h => h)
      obtain ⟨k'', d'', e5, e6⟩ := hkeep _ _ _ _ a
      exact ⟨k'', d'', e5, Nat.le_trans e6 b⟩
theorem FInv.tell (h : FInv M N J cur f P (fun a b => a = n0 ∧ b = s0)) {k : Stp} (hk : f.mar n0 s0 = some (k, true)) (hL : n0 < M.L) (hv : f.fnd (M.out n0 s0) = none) :
    FInv M N J cur { f with fnd := upF f.fnd (M.out n0 s0) ⟨n0, s0, addC k.cost 1⟩, trees := f.trees ++ [M.out n0 s0] } (fun a b c => P a b c ∨ c = M.out n0 s0) (fun _ _ => False) := by
  have hup : ∀ v, upF f.fnd (M.out n0 s0) ⟨n0, s0, addC k.cost 1⟩ v = if v = M.out n0 s0 then some ⟨n0, s0, addC k.cost 1⟩ else f.fnd v := fun v => rfl
  have hg : Grows f { f with fnd := upF f.fnd (M.out n0 s0) ⟨n0, s0, addC k.cost 1⟩, trees := f.trees ++ [M.out n0 s0] } := by
    refine ⟨fun _ _ _ h => h, fun v src hs => ?_⟩
    show upF f.fnd (M.out n0 s0) ⟨n0, s0, addC k.cost 1⟩ v = _
    rw [hup]
    split
    · rename_i h9
      rw [h9, hv] at hs
      cases hs
    · exact hs
  refine ⟨h.ml, fun n s k d hk => ?_, fun x hx => ?_, h.und, h.dn, h.met, h.mnd, h.beg, fun v src hs => ?_, fun v => ?_, ?_, fun n s k' hk' hL' _ => ?_, fun n s k' v src hk' hs hP => ?_⟩
  · obtain ⟨a, b, c, e⟩ := h.ms n s k d hk
    exact ⟨a, b, c, e.grows hg⟩
  · obtain ⟨a, b, c, e⟩ := h.qs x hx
    exact ⟨a, b.grows hg, c, e⟩
  · change upF f.fnd (M.out n0 s0) ⟨n0, s0, addC k.cost 1⟩ v = some src at hs
    rw [hup] at hs
    split at hs
    · rename_i h9
      injection hs with hs
      subst hs
      exact ⟨hL, h9.symm, k, hk, rfl⟩
    · exact h.fn v src hs
  · show v ∈ f.trees ++ [M.out n0 s0] ↔ ∃ src, upF f.fnd (M.out n0 s0) ⟨n0, s0, addC k.cost 1⟩ v = some src
    rw [List.mem_append, List.mem_singleton, hup, h.tr v]
    split
    · rename_i h9
      exact ⟨fun _ => ⟨_, rfl⟩, fun _ => .inr h9⟩
    · rename_i h9
      exact ⟨fun h8 => h8.resolve_right h9, fun h8 => .inl h8⟩
  · rw [List.nodup_append]
    refine ⟨h.tnd, by simp, fun a ha b hb e => ?_⟩
    rw [List.mem_singleton] at hb
    subst hb e
    obtain ⟨src, hs⟩ := (h.tr _).1 ha
    rw [hv] at hs
    cases hs
  · show ∃ src, upF f.fnd (M.out n0 s0) ⟨n0, s0, addC k.cost 1⟩ (M.out n s) = some src ∧ _
    by_cases h9 : n = n0 ∧ s = s0
    · obtain ⟨rfl, rfl⟩ := h9
      rw [hk] at hk'
      injection hk' with hk'
      injection hk' with hk' _
      subst hk'
      exact ⟨_, by rw [hup, if_pos rfl], Nat.le_refl _⟩
    · obtain ⟨src, e1, e2⟩ := h.told n s k' hk' hL' h9
      exact ⟨src, hg.2 _ _ e1, e2⟩
  · change upF f.fnd (M.out n0 s0) ⟨n0, s0, addC k.cost 1⟩ v = some src at hs
    rw [hup] at hs
    split at hs
    · rename_i h9
      exact absurd (.inr h9) hP
    · exact h.clo n s k' v src hk' hs fun h8 => hP (.inl h8)
theorem FInv.noTell (h : FInv M N J cur f P (fun a b => a = n0 ∧ b = s0)) {k : Stp} (hk : f.mar n0 s0 = some (k, true)) (hkc : cur ≤ k.cost) (hv : ∀ _ : n0 < M.L, ∃ src, f.fnd (M.out n0 s0) = some src) : FInv M N J cur f P (fun _ _ => False) := by
  refine ⟨h.ml, h.ms, h.qs, h.und, h.dn, h.met, h.mnd, h.beg, h.fn, h.tr, h.tnd, fun n s k' hk' hL _ => ?_, h.clo⟩
  by_cases h9 : n = n0 ∧ s = s0
  · obtain ⟨rfl, rfl⟩ := h9
    obtain ⟨src, hs⟩ := hv hL
    obtain ⟨_, _, k2, e1, e2⟩ := h.fn _ _ hs
    refine ⟨src, hs, ?_⟩
    rw [e2]
    rw [hk] at hk'
    injection hk' with hk'
    injection hk' with hk' _
    subst hk'
    exact addC_mono (Nat.le_trans (h.dn _ _ _ e1).1 hkc) (Nat.le_refl _)
  · exact h.told n s k' hk' hL h9
def fs0 (N : Nat) : FS := ⟨[], fun _ _ => none, List.replicate N [], [], fun _ => none⟩
theorem FInv.zero (M : Mc) (N : Nat) : FInv M N 0 0 (fs0 N) (fun _ _ _ => False) (fun _ _ => False) := by
  refine ⟨by simp [fs0], fun n s k d h => ?_, fun x hx => ?_, fun n s k h => ?_, fun n s k h => ?_, fun n hn s => ?_, fun n hn => ?_, fun n hn => ?_, fun v src h => ?_, fun v => ?_, ?_, fun n s k h => ?_, fun n s k v src h => ?_⟩
  · cases h
  · cases hx
  · cases h
  · cases h
  · simp [fs0]
  · simp [fs0]
  · omega
  · cases h
  · simp [fs0]
  · simp [fs0]
  · cases h
  · cases h
theorem FInv.begin (h : FInv M N J 0 f (fun _ _ _ => False) (fun _ _ => False)) (hJ : J < N) (hp : PutR f ⟨J, 0, 0, -1, -1⟩ f') : FInv M N (J + 1) 0 f' (fun _ _ _ => False) (fun _ _ => False) := by
  obtain ⟨hI, k, d, hk, hc⟩ := h.put hp (Rd'.start hJ) (.inl ⟨rfl, rfl, rfl⟩) (Nat.zero_le _)
  refine ⟨hI.ml, hI.ms, hI.qs, hI.und, hI.dn, hI.met, hI.mnd, fun n hn => ?_, hI.fn, hI.tr, hI.tnd, hI.told, hI.clo⟩
  by_cases h9 : n = J
  · subst h9
    exact ⟨k, d, hk, by simp at hc; exact hc⟩
  · exact hI.beg n (by omega)
end
end Go.Proofs.YtnkelhmjkmeilaaGreatDoor.H
end
section
namespace Go.Proofs.YtnkelhmjkmeilaaGreatDoor.H
inductive Tr where
  | mk (lab : Int) (kids : List Tr)
def Tr.lab : Tr → Int | .mk a _ => a
def Tr.kids : Tr → List Tr | .mk _ k => k
mutual
def trC : Tr → List Cl
  | .mk a k => [.i a, .s 2 k.length (trsC k)]
def trsC : List Tr → List Cl
  | [] => []
  | t :: l => trC t ++ trsC l
end
theorem trC_eq (t : Tr) : trC t = [.i t.lab, .s 2 t.kids.length (trsC t.kids)] := by cases t; simp only [trC, Tr.lab, Tr.kids]
theorem trsC_flat : ∀ l : List Tr, trsC l = l.flatMap trC
  | [] => by simp only [trsC, List.flatMap_nil]
  | t :: l => by rw [trsC, trsC_flat l, List.flatMap_cons]
theorem trsC_append (l m : List Tr) : trsC (l ++ m) = trsC l ++ trsC m := by rw [trsC_flat, trsC_flat, trsC_flat, List.flatMap_append]
mutual
def stT (M : Mc) : Tr → Option Nat
  | .mk a k => if 0 ≤ a ∧ a.toNat < M.L then (thrT M a.toNat 0 k).map (M.out a.toNat) else none
def thrT (M : Mc) (n s : Nat) : List Tr → Option Nat
  | [] => some s
  | t :: l => match stT M t with
    | none => none
    | some v => thrT M n (M.nx n s v) l
end
mutual
def wtT : Tr → Nat
  | .mk _ k => 1 + wtTs k
def wtTs : List Tr → Nat
  | [] => 0
  | t :: l => wtT t + wtTs l
end
theorem wtTs_append (l m : List Tr) : wtTs (l ++ m) = wtTs l + wtTs m := by
  induction l with
  | nil => simp [wtTs]
  | cons t l ih => rw [List.cons_append, wtTs, wtTs, ih]; omega
theorem wtTs_rev (l : List Tr) : wtTs l.reverse = wtTs l := by
  induction l with
  | nil => rfl
  | cons t l ih => rw [List.reverse_cons, wtTs_append, ih, wtTs, wtTs, wtTs]; omega
theorem wtT_eq (t : Tr) : wtT t = 1 + wtTs t.kids := by cases t; rw [wtT]; rfl
theorem wtTs_ge : ∀ l : List Tr, l.length ≤ wtTs l
  | [] => by simp
  | t :: l => by have := wtTs_ge l; rw [wtTs, wtT_eq, List.length_cons]; omega
theorem thrT_append (M : Mc) (n : Nat) (l m : List Tr) : ∀ s, thrT M n s (l ++ m) = (thrT M n s l).bind fun s' => thrT M n s' m := by
  induction l with
  | nil => intro s; simp [thrT]
  | cons t l ih =>
    intro s
    rw [List.cons_append, thrT, thrT]
    cases stT M t with
    | none => rfl
    | some v => exact ih _
theorem stT_mk (M : Mc) {a : Nat} (ha : a < M.L) (k : List Tr) : stT M (.mk (a : Int) k) = (thrT M a 0 k).map (M.out a) := by
  rw [stT, Int.toNat_natCast, if_pos ⟨by omega, ha⟩]
structure Paths (M : Mc) (f : FS) : Prop where
  mks : ∀ n s k, f.mar n s = some (k, true) → k.num = n ∧ k.st = s ∧ n ≤ M.L ∧ s < M.sz n ∧ k.cost ≤ topC ∧ Chain M f k
  fn : ∀ v src, f.fnd v = some src → src.num < M.L ∧ M.out src.num src.st = v ∧ ∃ k, f.mar src.num src.st = some (k, true) ∧ src.cost = addC k.cost 1
theorem FInv.paths {M : Mc} {N J cur : Nat} {f : FS} {P : Nat → Nat → Nat → Prop} {X : Nat → Nat → Prop} (hO : M.Ok) (hN : N ≤ M.L + 1) (h : FInv M N J cur f P X) : Paths M f :=
  ⟨fun n s k hk => by
    obtain ⟨h1, h2, h3, h4⟩ := h.ms n s k true hk
    have hf := h3.fin hO hN
    exact ⟨h1, h2, by omega, hf.2.1, hf.2.2, h4⟩, h.fn⟩
theorem Paths.same {M : Mc} {f f' : FS} (h : Paths M f) (h1 : f'.mar = f.mar) (h2 : f'.fnd = f.fnd) : Paths M f' :=
  ⟨fun n s k hk => by
    rw [h1] at hk
    obtain ⟨a, b, c, d, e, g⟩ := h.mks n s k hk
    exact ⟨a, b, c, d, e, g.grows ⟨fun n s k hk => by rw [h1]; exact hk, fun v src hv => by rw [h2]; exact hv⟩⟩, fun v src hv => by
    rw [h2] at hv
    rw [h1]
    exact h.fn v src hv⟩
theorem Rd'.of_trees {M : Mc} {N : Nat} (hN : M.L ≤ N) : (∀ (t : Tr) (v : Nat), stT M t = some v → ∃ n s c, n < M.L ∧ Rd' M N n s c ∧ M.out n s = v ∧ addC c 1 ≤ wtT t) ∧
    (∀ (l : List Tr) (n s s' c : Nat), n < N → Rd' M N n s c → thrT M n s l = some s' → ∃ c', Rd' M N n s' c' ∧ c' ≤ c + wtTs l) := by
  suffices h : ∀ k, (∀ (t : Tr) (v : Nat), wtT t ≤ k → stT M t = some v → ∃ n s c, n < M.L ∧ Rd' M N n s c ∧ M.out n s = v ∧ addC c 1 ≤ wtT t) ∧
      (∀ (l : List Tr) (n s s' c : Nat), wtTs l ≤ k → n < N → Rd' M N n s c → thrT M n s l = some s' → ∃ c', Rd' M N n s' c' ∧ c' ≤ c + wtTs l) from
    ⟨fun t v h1 => (h (wtT t)).1 t v (Nat.le_refl _) h1, fun l n s s' c h1 h2 h3 => (h (wtTs l)).2 l n s s' c (Nat.le_refl _) h1 h2 h3⟩
  have hadd : ∀ a b, addC a b ≤ a + b := fun a b => by unfold addC; split <;> omega
  intro k
  induction k with
  | zero =>
    refine ⟨fun t v hk _ => ?_, fun l n s s' c hk hn hr h => ?_⟩
    · rw [wtT_eq] at hk; omega
    · cases l with
      | nil => simp only [thrT] at h; injection h with h; subst h; exact ⟨c, hr, by simp [wtTs]⟩
      | cons t l => rw [wtTs, wtT_eq] at hk; omega
  | succ k ih =>
    have hT : ∀ (t : Tr) (v : Nat), wtT t ≤ k + 1 → stT M t = some v → ∃ n s c, n < M.L ∧ Rd' M N n s c ∧ M.out n s = v ∧ addC c 1 ≤ wtT t := by
      intro t v hk h
      cases t with
      | mk a kids =>
        rw [stT] at h
        split at h
        · rename_i ha
          rw [wtT] at hk ⊢
          cases h1 : thrT M a.toNat 0 kids with
          | none => rw [h1] at h; cases h
          | some s =>
            rw [h1] at h
            injection h with h
            obtain ⟨c', hr, hc⟩ := ih.2 kids a.toNat 0 s 0 (by omega) (by omega) (Rd'.start (by omega)) h1
            exact ⟨a.toNat, s, c', ha.2, hr, h, by have := hadd c' 1; omega⟩
        · cases h
    refine ⟨hT, fun l => ?_⟩
    induction l with
    | nil =>
      intro n s s' c hk hn hr h
      simp only [thrT] at h
      injection h with h
      subst h
      exact ⟨c, hr, by simp [wtTs]⟩
    | cons t l ihl =>
      intro n s s' c hk hn hr h
      rw [thrT] at h
      rw [wtTs] at hk ⊢
      cases h1 : stT M t with
      | none => rw [h1] at h; cases h
      | some v =>
        rw [h1] at h
        obtain ⟨n2, s2, c2, hn2, hr2, ho, hc2⟩ := hT t v (by omega) h1
        have hstep := Rd'.step hr hn2 hr2
        rw [ho] at hstep
        obtain ⟨c', hr', hc'⟩ := ihl n _ s' _ (by omega) hn hstep h
        have := hadd c (addC c2 1)
        exact ⟨c', hr', by omega⟩
end Go.Proofs.YtnkelhmjkmeilaaGreatDoor.H
end
section
namespace Go.Proofs.YtnkelhmjkmeilaaGreatDoor.H
open Go.RowKit Go.Maps Go.WideMaps
attribute [local go_sem ↓] Go.wp_at_zero Go.wp_at_succ
def stateI : Option Nat → Int
  | none => -1
  | some v => (v : Int)
theorem thr_lt {M : Mc} (hO : M.Ok) : (∀ (t : Tr) (v : Nat), stT M t = some v → v < M.K) ∧ (∀ (l : List Tr) (n s s' : Nat), n ≤ M.L → s < M.sz n → thrT M n s l = some s' → s' < M.sz n) := by
  suffices h : ∀ k, (∀ (t : Tr) (v : Nat), wtT t ≤ k → stT M t = some v → v < M.K) ∧ (∀ (l : List Tr) (n s s' : Nat), wtTs l ≤ k → n ≤ M.L → s < M.sz n → thrT M n s l = some s' → s' < M.sz n) from
    ⟨fun t v h1 => (h (wtT t)).1 t v (Nat.le_refl _) h1, fun l n s s' h1 h2 h3 => (h (wtTs l)).2 l n s s' (Nat.le_refl _) h1 h2 h3⟩
  intro k
  induction k with
  | zero =>
    refine ⟨fun t v hk _ => ?_, fun l n s s' hk hn hs h => ?_⟩
    · rw [wtT_eq] at hk; omega
    · cases l with
      | nil => simp only [thrT] at h; injection h with h; subst h; exact hs
      | cons t l => rw [wtTs, wtT_eq] at hk; omega
  | succ k ih =>
    have hT : ∀ (t : Tr) (v : Nat), wtT t ≤ k + 1 → stT M t = some v → v < M.K := by
      intro t v hk h
      cases t with
      | mk a kids =>
        rw [stT] at h
        split at h
        · rename_i ha
          rw [wtT] at hk
          cases h1 : thrT M a.toNat 0 kids with
          | none => rw [h1] at h; cases h
          | some s =>
            rw [h1] at h
            injection h with h
            rw [← h]
            exact hO.out _ _ ha.2 (ih.2 kids a.toNat 0 s (by omega) (by omega) (hO.pos _ (by omega)) h1)
        · cases h
    refine ⟨hT, fun l => ?_⟩
    induction l with
    | nil => intro n s s' _ _ hs h; simp only [thrT] at h; injection h with h; subst h; exact hs
    | cons t l ihl =>
      intro n s s' hk hn hs h
      rw [thrT] at h
      rw [wtTs] at hk
      cases h1 : stT M t with
      | none => rw [h1] at h; cases h
      | some v =>
        rw [h1] at h
        exact ihl n _ s' (by omega) hn (hO.nx _ _ _ hn hs (hT t v (by omega) h1)) h
def StOk (F : FuncId) (h : Hd) (t : Tr) : Prop := ∀ (w : World) (A B C : Option Addr) (c c1 c2 : Nat) (K : Option Addr) (kc : Nat), HdV w (fun b => b < w.heap.size) h A c B c1 C c2 → SlP w (fun b => b < w.heap.size) 2 K t.kids.length (trsC t.kids) → Cap t.kids.length kc →
  Calls Tryz.prog F #[hdVal h A c B c1 C c2, .agg #[.int .i64 t.lab, .slice K t.kids.length kc]] w fun e w' => e = .returned (.int .i64 (stateI (stT h.mc t))) ∧ Below w.heap.size w w'
end Go.Proofs.YtnkelhmjkmeilaaGreatDoor.H
end
