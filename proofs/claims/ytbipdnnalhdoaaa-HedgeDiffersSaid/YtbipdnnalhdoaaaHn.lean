/- Plain: trees, what a machine makes of them, what they weigh; trees as cells; where the finder's marks lead to. -/
import Derived.Test.YtbipdnnalhdoaaaCl
import Derived.Test.YtbipdnnalhdoaaaHi
namespace Go.Proofs.Ytbipdnnalhdoaaa

inductive Tr where
  | mk (lab : Int) (kids : List Tr)
def Tr.lab : Tr → Int | .mk a _ => a
def Tr.kids : Tr → List Tr | .mk _ k => k
mutual
def trC : Tr → List Cl
  | .mk a k => [.i a, .s 2 k.length (trsC k)]
def trsC : List Tr → List Cl
  | [] => []
  | t :: l => trC t ++ trsC l
end
theorem trC_eq (t : Tr) : trC t = [.i t.lab, .s 2 t.kids.length (trsC t.kids)] := by cases t; simp only [trC, Tr.lab, Tr.kids]
theorem trC_len (t : Tr) : (trC t).length = 2 := by rw [trC_eq]; rfl
theorem trsC_flat : ∀ l : List Tr, trsC l = l.flatMap trC
  | [] => by simp only [trsC, List.flatMap_nil]
  | t :: l => by rw [trsC, trsC_flat l, List.flatMap_cons]
theorem trsC_len (l : List Tr) : (trsC l).length = l.length * 2 := by rw [trsC_flat, flat_len trC_len]
theorem trsC_at {l : List Tr} {k : Nat} (hk : k < l.length) : (trsC l)[k * 2]? = some (.i l[k].lab) ∧ (trsC l)[k * 2 + 1]? = some (.s 2 l[k].kids.length (trsC l[k].kids)) := by
  have h := List.getElem?_eq_getElem hk
  have h0 := flat_at trC_len (r := 0) h (by omega)
  have h1 := flat_at trC_len (r := 1) h (by omega)
  rw [trC_eq] at h0 h1
  rw [trsC_flat]
  exact ⟨h0, h1⟩
theorem trsC_append (l m : List Tr) : trsC (l ++ m) = trsC l ++ trsC m := by rw [trsC_flat, trsC_flat, trsC_flat, List.flatMap_append]

mutual
/-- a tree's state -/
def stT (M : Mc) : Tr → Option Nat
  | .mk a k => if 0 ≤ a ∧ a.toNat < M.L then (thrT M a.toNat 0 k).map (M.out a.toNat) else none
/-- side n goes through trees, from its state s on -/
def thrT (M : Mc) (n s : Nat) : List Tr → Option Nat
  | [] => some s
  | t :: l => match stT M t with
    | none => none
    | some v => thrT M n (M.nx n s v) l
end
mutual
def wtT : Tr → Nat
  | .mk _ k => 1 + wtTs k
def wtTs : List Tr → Nat
  | [] => 0
  | t :: l => wtT t + wtTs l
end
theorem wtTs_append (l m : List Tr) : wtTs (l ++ m) = wtTs l + wtTs m := by
  induction l with
  | nil => simp [wtTs]
  | cons t l ih => rw [List.cons_append, wtTs, wtTs, ih]; omega
theorem wtTs_rev (l : List Tr) : wtTs l.reverse = wtTs l := by
  induction l with
  | nil => rfl
  | cons t l ih => rw [List.reverse_cons, wtTs_append, ih, wtTs, wtTs, wtTs]; omega
theorem wtT_eq (t : Tr) : wtT t = 1 + wtTs t.kids := by cases t; rw [wtT]; rfl
theorem wtTs_ge : ∀ l : List Tr, l.length ≤ wtTs l
  | [] => by simp
  | t :: l => by have := wtTs_ge l; rw [wtTs, wtT_eq, List.length_cons]; omega
theorem thrT_append (M : Mc) (n : Nat) (l m : List Tr) : ∀ s, thrT M n s (l ++ m) = (thrT M n s l).bind fun s' => thrT M n s' m := by
  induction l with
  | nil => intro s; simp [thrT]
  | cons t l ih =>
    intro s
    rw [List.cons_append, thrT, thrT]
    cases stT M t with
    | none => rfl
    | some v => exact ih _
theorem stT_mk (M : Mc) {a : Nat} (ha : a < M.L) (k : List Tr) : stT M (.mk (a : Int) k) = (thrT M a 0 k).map (M.out a) := by
  rw [stT, Int.toNat_natCast, if_pos ⟨by omega, ha⟩]

/-- what the marks and sources of a finder say -/
structure Paths (M : Mc) (f : FS) : Prop where
  mks : ∀ n s k, f.mar n s = some (k, true) → k.num = n ∧ k.st = s ∧ n ≤ M.L ∧ s < M.sz n ∧ k.cost ≤ topC ∧ Chain M f k
  fn : ∀ v src, f.fnd v = some src → src.num < M.L ∧ M.out src.num src.st = v ∧ ∃ k, f.mar src.num src.st = some (k, true) ∧ src.cost = addC k.cost 1
theorem FInv.paths {M : Mc} {N J cur : Nat} {f : FS} {P : Nat → Nat → Nat → Prop} {X : Nat → Nat → Prop} (hO : M.Ok) (hN : N ≤ M.L + 1) (h : FInv M N J cur f P X) : Paths M f :=
  ⟨fun n s k hk => by
    obtain ⟨h1, h2, h3, h4⟩ := h.ms n s k true hk
    have hf := h3.fin hO hN
    exact ⟨h1, h2, by omega, hf.2.1, hf.2.2, h4⟩, h.fn⟩
theorem Paths.same {M : Mc} {f f' : FS} (h : Paths M f) (h1 : f'.mar = f.mar) (h2 : f'.fnd = f.fnd) : Paths M f' :=
  ⟨fun n s k hk => by
    rw [h1] at hk
    obtain ⟨a, b, c, d, e, g⟩ := h.mks n s k hk
    exact ⟨a, b, c, d, e, g.grows ⟨fun n s k hk => by rw [h1]; exact hk, fun v src hv => by rw [h2]; exact hv⟩⟩, fun v src hv => by
    rw [h2] at hv
    rw [h1]
    exact h.fn v src hv⟩
/-- the trees of a path, and its end -/
theorem Rd'.of_trees {M : Mc} {N : Nat} (hN : M.L ≤ N) : (∀ (t : Tr) (v : Nat), stT M t = some v → ∃ n s c, n < M.L ∧ Rd' M N n s c ∧ M.out n s = v ∧ addC c 1 ≤ wtT t) ∧
    (∀ (l : List Tr) (n s s' c : Nat), n < N → Rd' M N n s c → thrT M n s l = some s' → ∃ c', Rd' M N n s' c' ∧ c' ≤ c + wtTs l) := by
  suffices h : ∀ k, (∀ (t : Tr) (v : Nat), wtT t ≤ k → stT M t = some v → ∃ n s c, n < M.L ∧ Rd' M N n s c ∧ M.out n s = v ∧ addC c 1 ≤ wtT t) ∧
      (∀ (l : List Tr) (n s s' c : Nat), wtTs l ≤ k → n < N → Rd' M N n s c → thrT M n s l = some s' → ∃ c', Rd' M N n s' c' ∧ c' ≤ c + wtTs l) from
    ⟨fun t v h1 => (h (wtT t)).1 t v (Nat.le_refl _) h1, fun l n s s' c h1 h2 h3 => (h (wtTs l)).2 l n s s' c (Nat.le_refl _) h1 h2 h3⟩
  have hadd : ∀ a b, addC a b ≤ a + b := fun a b => by unfold addC; split <;> omega
  intro k
  induction k with
  | zero =>
    refine ⟨fun t v hk _ => ?_, fun l n s s' c hk hn hr h => ?_⟩
    · rw [wtT_eq] at hk; omega
    · cases l with
      | nil => simp only [thrT] at h; injection h with h; subst h; exact ⟨c, hr, by simp [wtTs]⟩
      | cons t l => rw [wtTs, wtT_eq] at hk; omega
  | succ k ih =>
    have hT : ∀ (t : Tr) (v : Nat), wtT t ≤ k + 1 → stT M t = some v → ∃ n s c, n < M.L ∧ Rd' M N n s c ∧ M.out n s = v ∧ addC c 1 ≤ wtT t := by
      intro t v hk h
      cases t with
      | mk a kids =>
        rw [stT] at h
        split at h
        · rename_i ha
          rw [wtT] at hk ⊢
          cases h1 : thrT M a.toNat 0 kids with
          | none => rw [h1] at h; cases h
          | some s =>
            rw [h1] at h
            injection h with h
            obtain ⟨c', hr, hc⟩ := ih.2 kids a.toNat 0 s 0 (by omega) (by omega) (Rd'.start (by omega)) h1
            exact ⟨a.toNat, s, c', ha.2, hr, h, by have := hadd c' 1; omega⟩
        · cases h
    refine ⟨hT, fun l => ?_⟩
    induction l with
    | nil =>
      intro n s s' c hk hn hr h
      simp only [thrT] at h
      injection h with h
      subst h
      exact ⟨c, hr, by simp [wtTs]⟩
    | cons t l ihl =>
      intro n s s' c hk hn hr h
      rw [thrT] at h
      rw [wtTs] at hk ⊢
      cases h1 : stT M t with
      | none => rw [h1] at h; cases h
      | some v =>
        rw [h1] at h
        obtain ⟨n2, s2, c2, hn2, hr2, ho, hc2⟩ := hT t v (by omega) h1
        have hstep := Rd'.step hr hn2 hr2
        rw [ho] at hstep
        obtain ⟨c', hr', hc'⟩ := ihl n _ s' _ (by omega) hn hstep h
        have := hadd c (addC c2 1)
        exact ⟨c', hr', by omega⟩
end Go.Proofs.Ytbipdnnalhdoaaa
