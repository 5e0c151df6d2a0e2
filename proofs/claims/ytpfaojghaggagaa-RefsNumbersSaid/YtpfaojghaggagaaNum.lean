/- Plain law: a number's digits stand for it. -/
import Derived.Test.YtpfaojghaggagaaRw3
namespace Go.Proofs.Ytpfaojghaggagaa

/-- what is left of a number, and the digits that were taken from it -/
def Inv (base : Int) (most N k : Nat) (acc : List UInt8) : Prop :=
  ∀ (c : Nat) (t : List UInt8), 0 < c + acc.length → c + acc.length ≤ most → numGo base most (acc ++ 59 :: t) k c = some ((N : Int), c + acc.length)
theorem Inv.start (base : Int) (most N : Nat) : Inv base most N N [] := by
  intro c t h _
  simp only [List.length_nil, Nat.add_zero] at h ⊢
  exact numGo_fin rfl (by omega)
theorem Inv.step {base : Nat} {most N k : Nat} {acc : List UInt8} (h : Inv base most N k acc) (d : UInt8) (h59 : d ≠ 59) (hd : digitOf (d.toNat : Int) base = ((k % base : Nat) : Int)) : Inv base most N (k / base) (d :: acc) := by
  intro c t h0 h1
  rw [List.length_cons] at h0 h1
  rw [List.cons_append, numGo_on h59 (by rw [hd]; omega), hd]
  have e : (((k / base : Nat) : Int) * (base : Int) + ((k % base : Nat) : Int)) = (k : Int) := by
    have := Nat.div_add_mod k base
    rw [Nat.mul_comm] at this
    exact_mod_cast this
  rw [e, h (c + 1) t (by omega) (by omega)]
  rw [List.length_cons]
  congr 2
  omega
theorem Inv.done {base : Int} {most N : Nat} {acc : List UInt8} (h : Inv base most N 0 acc) (h0 : 0 < acc.length) (h1 : acc.length ≤ most) (t : List UInt8) : numGo base most (acc ++ 59 :: t) 0 0 = some ((N : Int), acc.length) := by
  have := h 0 t (by omega) (by omega)
  rw [Nat.zero_add] at this
  exact this
theorem dig10 (x : Nat) (h : x < 10) : digitOf (((48 + x).toUInt8).toNat : Int) 10 = (x : Int) ∧ (48 + x).toUInt8 ≠ 59 ∧ (48 + x).toUInt8 ≠ 120 ∧ (48 + x).toUInt8 ≠ 88 ∧ ((48 + x).toUInt8).toNat = 48 + x := by
  have : ∀ x : Nat, x < 10 → digitOf (((48 + x).toUInt8).toNat : Int) 10 = (x : Int) ∧ (48 + x).toUInt8 ≠ 59 ∧ (48 + x).toUInt8 ≠ 120 ∧ (48 + x).toUInt8 ≠ 88 ∧ ((48 + x).toUInt8).toNat = 48 + x := by decide
  exact this x h
def hexs : List UInt8 := [48, 49, 50, 51, 52, 53, 54, 55, 56, 57, 97, 98, 99, 100, 101, 102]
theorem dig16 (x : Nat) (h : x < 16) : ∃ d, (hexs.drop x).take 1 = [d] ∧ digitOf (d.toNat : Int) 16 = (x : Int) ∧ d ≠ 59 := by
  have : ∀ x : Nat, x < 16 → (hexs.drop x).take 1 = [hexs.getD x 0] ∧ digitOf ((hexs.getD x 0).toNat : Int) 16 = (x : Int) ∧ hexs.getD x 0 ≠ 59 := by decide
  exact ⟨_, this x h⟩
theorem charOf_same (n : Int) (h0 : n ≠ 0) (h13 : n ≠ 13) (hs : ¬ (55296 ≤ n ∧ n ≤ 57343)) (hm : n ≤ 1114111) : charOf n = n := by
  unfold charOf
  rw [if_neg (by omega)]
/-- '&#', digits in tens, ';x' -/
theorem one_tens {N : Nat} {acc : List UInt8} (h : Inv 10 7 N 0 acc) (h0 : 0 < acc.length) (h1 : acc.length ≤ 7) (hx : ∀ c ∈ acc, c ≠ 120 ∧ c ≠ 88) (hN : charOf N = N) : one ([38, 35] ++ acc ++ [59, 120]) = ((N : Int), acc.length + 3) := by
  rcases acc with _ | ⟨d, acc⟩
  · simp at h0
  obtain ⟨d1, d2⟩ := hx d (by simp)
  unfold one
  have p1 : [38, 35, 120].isPrefixOf ([38, 35] ++ (d :: acc) ++ [59, 120]) = false := by
    simp only [List.cons_append, List.nil_append, List.isPrefixOf, beq_self_eq_true, Bool.true_and, Bool.and_true]
    rw [beq_eq_false_iff_ne]; exact d1.symm
  have p2 : [38, 35, 88].isPrefixOf ([38, 35] ++ (d :: acc) ++ [59, 120]) = false := by
    simp only [List.cons_append, List.nil_append, List.isPrefixOf, beq_self_eq_true, Bool.true_and, Bool.and_true]
    rw [beq_eq_false_iff_ne]; exact d2.symm
  have p3 : [38, 35].isPrefixOf ([38, 35] ++ (d :: acc) ++ [59, 120]) = true := rfl
  rw [if_neg (by rw [p1, p2]; simp), if_pos p3]
  have hd : ([38, 35] ++ (d :: acc) ++ [59, 120]).drop 2 = (d :: acc) ++ 59 :: [120] := by simp
  rw [numRef_some (by rw [hd]; exact h.done h0 h1 _), hN]
  congr 1
  omega
/-- '&#x', digits in sixteens, ';x' -/
theorem one_hex {N : Nat} {acc : List UInt8} (h : Inv 16 6 N 0 acc) (h0 : 0 < acc.length) (h1 : acc.length ≤ 6) (hN : charOf N = N) : one ([38, 35, 120] ++ acc ++ [59, 120]) = ((N : Int), acc.length + 4) := by
  unfold one
  have p1 : [38, 35, 120].isPrefixOf ([38, 35, 120] ++ acc ++ [59, 120]) = true := by
    simp [List.isPrefixOf]
  rw [if_pos (.inl p1)]
  have hd : ([38, 35, 120] ++ acc ++ [59, 120]).drop 3 = acc ++ 59 :: [120] := by simp
  rw [numRef_some (by rw [hd]; exact h.done h0 h1 _), hN]
  congr 1
  omega
end Go.Proofs.Ytpfaojghaggagaa
