/- Plain: the automaton of two. -/
import Derived.Test.YtnkelhmjkmeilaaGreatDoorT19
import Derived.Test.YtnkelhmjkmeilaaGreatDoorT20
import Derived.Test.YtnkelhmjkmeilaaGreatDoorT24
section
namespace Go.Proofs.YtnkelhmjkmeilaaGreatDoor.H
def nxP (a b : Sd) (Kh st pr : Nat) : Nat := a.nxt (st / b.out.length) (pr / Kh) * b.out.length + b.nxt (st % b.out.length) (pr % Kh)
def outP (a b : Sd) (Kh : Nat) (root : Bool) (st : Nat) : Nat := if root then a.tell (st / b.out.length) * b.tell (st % b.out.length) else a.tell (st / b.out.length) * Kh + b.tell (st % b.out.length)
def bothS (a b : Sd) (Kg Kh : Nat) (root : Bool) : Sd :=
  ⟨(List.range (a.out.length * b.out.length)).map fun st => (List.range (Kg * Kh)).map fun pr => (nxP a b Kh st pr : Int), (List.range (a.out.length * b.out.length)).map fun st => (outP a b Kh root st : Int)⟩
def andH (G H : Hd) : Hd := ⟨((G.K.toNat * H.K.toNat : Nat) : Int), (List.range G.labs.length).map fun n => bothS (G.side n) (H.side n) G.K.toNat H.K.toNat false, bothS G.root H.root G.K.toNat H.K.toNat true⟩
section
variable {a b : Sd} {Kg Kh : Nat} {root : Bool}
theorem bothS_out : (bothS a b Kg Kh root).out.length = a.out.length * b.out.length := by simp [bothS]
theorem bothS_nx : (bothS a b Kg Kh root).nx.length = a.out.length * b.out.length := by simp [bothS]
theorem bothS_nxt {st pr : Nat} (hs : st < a.out.length * b.out.length) (hp : pr < Kg * Kh) : (bothS a b Kg Kh root).nxt st pr = nxP a b Kh st pr := by
  simp [bothS, Sd.nxt, hs, hp]
theorem bothS_tell {st : Nat} (hs : st < a.out.length * b.out.length) : (bothS a b Kg Kh root).tell st = outP a b Kh root st := by
  simp [bothS, Sd.tell, hs]
theorem div_pair {x y m : Nat} (h : y < m) : (x * m + y) / m = x ∧ (x * m + y) % m = y := by
  have hm : 0 < m := by omega
  refine ⟨?_, ?_⟩
  · rw [Nat.mul_comm, Nat.mul_add_div hm, Nat.div_eq_of_lt h, Nat.add_zero]
  · rw [Nat.mul_comm, Nat.mul_add_mod, Nat.mod_eq_of_lt h]
theorem pair_lt {x y a m : Nat} (hx : x < a) (hy : y < m) : x * m + y < a * m := by
  have h1 : (x + 1) * m ≤ a * m := Nat.mul_le_mul_right _ hx
  rw [Nat.add_mul, Nat.one_mul] at h1
  omega
theorem div_lt' {st a m : Nat} (h : st < a * m) : st / m < a ∧ st % m < m := by
  have hm : 0 < m := by
    rcases Nat.eq_zero_or_pos m with h0 | h0
    · rw [h0, Nat.mul_zero] at h; omega
    · exact h0
  exact ⟨(Nat.div_lt_iff_lt_mul hm).2 h, Nat.mod_lt _ hm⟩
theorem nxP_lt {o1 o2 st pr : Nat} (ha : SdOk a Kg o1) (hb : SdOk b Kh o2) (hs : st < a.out.length * b.out.length) (hp : pr < Kg * Kh) : nxP a b Kh st pr < a.out.length * b.out.length := by
  obtain ⟨h1, h2⟩ := div_lt' hs
  obtain ⟨h3, h4⟩ := div_lt' hp
  obtain ⟨_, _, _, _, h5⟩ := ha.nxt h1 h3
  obtain ⟨_, _, _, _, h6⟩ := hb.nxt h2 h4
  exact pair_lt h5 h6
theorem bothS_ok {o1 o2 : Nat} (ha : SdOk a Kg o1) (hb : SdOk b Kh o2) (hr : if root then o1 = 2 ∧ o2 = 2 else o1 = Kg ∧ o2 = Kh) : SdOk (bothS a b Kg Kh root) (Kg * Kh) (if root then 2 else Kg * Kh) := by
  refine ⟨by rw [bothS_out]; exact Nat.mul_pos ha.pos hb.pos, by rw [bothS_out, bothS_nx], fun r hr => ?_, fun x hx => ?_⟩
  · simp only [bothS, List.mem_map, List.mem_range] at hr
    obtain ⟨st, hs, rfl⟩ := hr
    refine ⟨by simp, fun x hx => ?_⟩
    simp only [List.mem_map, List.mem_range] at hx
    obtain ⟨pr, hp, rfl⟩ := hx
    rw [bothS_out]
    have := nxP_lt ha hb hs hp
    omega
  · simp only [bothS, List.mem_map, List.mem_range] at hx
    obtain ⟨st, hs, rfl⟩ := hx
    obtain ⟨h1, h2⟩ := div_lt' hs
    have h3 := (ha.tell h1).2
    have h4 := (hb.tell h2).2
    cases root with
    | true =>
      simp only [if_true] at hr ⊢
      obtain ⟨rfl, rfl⟩ := hr
      have : outP a b Kh true st ≤ 1 := by
        simp only [outP, if_true]
        exact Nat.mul_le_mul (show a.tell (st / b.out.length) ≤ 1 by omega) (show b.tell (st % b.out.length) ≤ 1 by omega)
      omega
    | false =>
      simp only [Bool.false_eq_true, if_false] at hr ⊢
      obtain ⟨rfl, rfl⟩ := hr
      have : outP a b o2 false st < o1 * o2 := by
        simp only [outP, Bool.false_eq_true, if_false]
        exact pair_lt h3 h4
      omega
end
section
variable {G H : Hd} {m1 m2 : Nat}
theorem and_labs : (andH G H).labs.length = G.labs.length := by simp [andH]
theorem and_K : (andH G H).K.toNat = G.K.toNat * H.K.toNat := by rw [andH]; exact Int.toNat_natCast _
theorem and_side (hL : G.labs.length = H.labs.length) (n : Nat) : (andH G H).side n = bothS (G.side n) (H.side n) G.K.toNat H.K.toNat (decide (G.labs.length ≤ n)) := by
  by_cases hn : n < G.labs.length
  · have h1 := Hd.side_lt (h := andH G H) (n := n) (by rw [and_labs]; exact hn)
    rw [decide_eq_false (show ¬ G.labs.length ≤ n by omega)]
    rw [andH] at h1
    simp only [List.getElem?_map, List.getElem?_range hn, Option.map_some, Option.some.injEq] at h1
    exact h1.symm
  · have h1 := Hd.side_ge (h := andH G H) (n := n) (by rw [and_labs]; omega)
    rw [h1, Hd.side_ge (h := G) (by omega), Hd.side_ge (h := H) (by omega), decide_eq_true (show G.labs.length ≤ n by omega)]
    rfl
theorem and_ok (hG : HdOk G m1) (hH : HdOk H m2) (hL : G.labs.length = H.labs.length) : HdOk (andH G H) (m1 * m2) := by
  have hsd : ∀ n, SdOk ((andH G H).side n) (andH G H).K.toNat (if n < G.labs.length then (andH G H).K.toNat else 2) ∧ ((andH G H).side n).out.length ≤ m1 * m2 := fun n => by
    obtain ⟨a1, a2⟩ := hG.sideOk n
    obtain ⟨b1, b2⟩ := hH.sideOk n
    rw [← hL] at b1
    rw [and_side hL, and_K]
    refine ⟨?_, by rw [bothS_out]; exact Nat.mul_le_mul a2 b2⟩
    by_cases hn : n < G.labs.length
    · rw [if_pos hn] at a1 b1 ⊢
      rw [decide_eq_false (show ¬ G.labs.length ≤ n by omega)]
      have := bothS_ok (root := false) a1 b1 (by simp)
      simpa using this
    · rw [if_neg hn] at a1 b1 ⊢
      rw [decide_eq_true (show G.labs.length ≤ n by omega)]
      have := bothS_ok (root := true) a1 b1 (by simp)
      simpa using this
  have hKp : 1 ≤ G.K.toNat * H.K.toNat := Nat.mul_pos (by have := hG.K1; omega) (by have := hH.K1; omega)
  have hlab : ∀ s ∈ (andH G H).labs, ∃ n, n < G.labs.length ∧ s = (andH G H).side n := fun s hs => by
    obtain ⟨n, hn, rfl⟩ := List.mem_iff_getElem.1 hs
    refine ⟨n, by rw [← and_labs (G := G) (H := H)]; exact hn, ?_⟩
    have := Hd.side_lt hn
    rw [List.getElem?_eq_getElem hn] at this
    injection this
  refine ⟨?_, fun s hs => ?_, ?_, by rw [and_labs]; exact hG.fewL, fun s hs => ?_, ?_, ?_⟩
  · show (1 : Int) ≤ ((G.K.toNat * H.K.toNat : Nat) : Int)
    omega
  · obtain ⟨n, hn, rfl⟩ := hlab s hs
    have := (hsd n).1
    rw [if_pos hn] at this
    exact this
  · have := (hsd G.labs.length).1
    rw [if_neg (Nat.lt_irrefl _), Hd.side_ge (by rw [and_labs]; exact Nat.le_refl _)] at this
    exact this
  · obtain ⟨n, hn, rfl⟩ := hlab s hs
    exact (hsd n).2
  · have := (hsd G.labs.length).2
    rw [Hd.side_ge (by rw [and_labs]; exact Nat.le_refl _)] at this
    exact this
  · show ((G.K.toNat * H.K.toNat : Nat) : Int) ≤ ((m1 * m2 : Nat) : Int)
    have : G.K.toNat * H.K.toNat ≤ m1 * m2 := Nat.mul_le_mul (by have := hG.fewK; omega) (by have := hH.fewK; omega)
    omega
def pairO (m : Nat) (x y : Option Nat) : Option Nat := x.bind fun a => y.map fun b => a * m + b
theorem and_trees (hG : HdOk G m1) (hH : HdOk H m2) (hm1 : m1 ≤ 400) (hm2 : m2 ≤ 400) (hL : G.labs.length = H.labs.length) :
    (∀ t, stT (andH G H).mc t = pairO H.K.toNat (stT G.mc t) (stT H.mc t)) ∧ ∀ (l : List Tr) (n s1 s2 : Nat), n ≤ G.labs.length → s1 < (G.side n).out.length → s2 < (H.side n).out.length → thrT (andH G H).mc n (s1 * (H.side n).out.length + s2) l = pairO (H.side n).out.length (thrT G.mc n s1 l) (thrT H.mc n s2 l) := by
  have hlG := thr_lt (hG.mcOk hm1)
  have hlH := thr_lt (hH.mcOk hm2)
  have hL1 : (andH G H).mc.L = G.labs.length := and_labs
  have hout : ∀ n s1 s2, n ≤ G.labs.length → s1 < (G.side n).out.length → s2 < (H.side n).out.length → (andH G H).mc.out n (s1 * (H.side n).out.length + s2) = if n < G.labs.length then G.mc.out n s1 * H.K.toNat + H.mc.out n s2 else G.mc.out n s1 * H.mc.out n s2 := fun n s1 s2 hn h1 h2 => by
    show ((andH G H).side n).tell _ = _
    rw [and_side hL, bothS_tell (pair_lt h1 h2), outP, (div_pair h2).1, (div_pair h2).2]
    by_cases hn' : n < G.labs.length
    · rw [if_pos hn', decide_eq_false (show ¬ G.labs.length ≤ n by omega)]; rfl
    · rw [if_neg hn', decide_eq_true (show G.labs.length ≤ n by omega)]; rfl
  have hnx : ∀ n s1 s2 x y, s1 < (G.side n).out.length → s2 < (H.side n).out.length → x < G.K.toNat → y < H.K.toNat → (andH G H).mc.nx n (s1 * (H.side n).out.length + s2) (x * H.K.toNat + y) = G.mc.nx n s1 x * (H.side n).out.length + H.mc.nx n s2 y := fun n s1 s2 x y h1 h2 h3 h4 => by
    show ((andH G H).side n).nxt _ _ = _
    rw [and_side hL, bothS_nxt (pair_lt h1 h2) (pair_lt h3 h4), nxP, (div_pair h2).1, (div_pair h2).2, (div_pair h4).1, (div_pair h4).2]
    rfl
  have hlist : ∀ (l : List Tr), (∀ t ∈ l, stT (andH G H).mc t = pairO H.K.toNat (stT G.mc t) (stT H.mc t)) → ∀ (n s1 s2 : Nat), n ≤ G.labs.length → s1 < (G.side n).out.length → s2 < (H.side n).out.length → thrT (andH G H).mc n (s1 * (H.side n).out.length + s2) l = pairO (H.side n).out.length (thrT G.mc n s1 l) (thrT H.mc n s2 l) := by
    intro l
    induction l with
    | nil => intro _ n s1 s2 _ _ _; simp [thrT, pairO]
    | cons t l ih =>
      intro ht n s1 s2 hn h1 h2
      rw [thrT, thrT, thrT, ht t (by simp)]
      cases hx : stT G.mc t with
      | none => simp [pairO]
      | some x =>
        cases hy : stT H.mc t with
        | none => simp [pairO]
        | some y =>
          have hx' := hlG.1 t x hx
          have hy' := hlH.1 t y hy
          have e1 : pairO H.K.toNat (some x) (some y) = some (x * H.K.toNat + y) := rfl
          rw [e1]
          simp only []
          rw [hnx n s1 s2 x y h1 h2 hx' hy']
          refine ih (fun t' h' => ht t' (by simp [h'])) n _ _ hn ?_ ?_
          · obtain ⟨_, _, _, _, h9⟩ := (hG.sideOk n).1.nxt h1 hx'
            exact h9
          · obtain ⟨_, _, _, _, h9⟩ := (hH.sideOk n).1.nxt h2 hy'
            exact h9
  have hT : ∀ (k : Nat) (t : Tr), wtT t ≤ k → stT (andH G H).mc t = pairO H.K.toNat (stT G.mc t) (stT H.mc t) := by
    intro k
    induction k with
    | zero => intro t h; rw [wtT_eq] at h; omega
    | succ k ih =>
      intro t hk
      cases t with
      | mk a kids =>
        have hle : ∀ t ∈ kids, wtT t ≤ wtTs kids := fun t ht => by
          clear hk
          induction kids with
          | nil => cases ht
          | cons t' l ihl =>
            rw [wtTs]
            rcases List.mem_cons.1 ht with rfl | h2
            · omega
            · have := ihl h2; omega
        rw [stT, stT, stT, hL1]
        have e1 : G.mc.L = G.labs.length := rfl
        have e2 : H.mc.L = G.labs.length := hL.symm
        rw [e1, e2]
        by_cases ha : 0 ≤ a ∧ a.toNat < G.labs.length
        · rw [if_pos ha, if_pos ha, if_pos ha]
          have hp1 := (hG.sideOk a.toNat).1.pos
          have hp2 := (hH.sideOk a.toNat).1.pos
          have hth := hlist kids (fun t ht => ih t (by have := hle t ht; rw [wtT] at hk; omega)) a.toNat 0 0 (by omega) hp1 hp2
          rw [Nat.zero_mul, Nat.zero_add] at hth
          rw [hth]
          cases hx : thrT G.mc a.toNat 0 kids with
          | none => simp [pairO]
          | some x =>
            cases hy : thrT H.mc a.toNat 0 kids with
            | none => simp [pairO]
            | some y =>
              have hx' := hlG.2 kids a.toNat 0 x (by omega) hp1 hx
              have hy' := hlH.2 kids a.toNat 0 y (by have := ha.2; omega) hp2 hy
              simp only [pairO, Option.bind_some, Option.map_some]
              rw [hout a.toNat x y (by omega) hx' hy', if_pos ha.2]
        · rw [if_neg ha, if_neg ha, if_neg ha]; rfl
  exact ⟨fun t => hT _ t (Nat.le_refl _), fun l => hlist l fun t _ => hT _ t (Nat.le_refl _)⟩
theorem and_acc (hG : HdOk G m1) (hH : HdOk H m2) (hm1 : m1 ≤ 400) (hm2 : m2 ≤ 400) (hL : G.labs.length = H.labs.length) (l : List Tr) : Acc (andH G H).mc l ↔ Acc G.mc l ∧ Acc H.mc l := by
  have hlG := thr_lt (hG.mcOk hm1)
  have hlH := thr_lt (hH.mcOk hm2)
  have hp1 := (hG.sideOk G.labs.length).1.pos
  have hp2 := (hH.sideOk G.labs.length).1.pos
  have hth := (and_trees hG hH hm1 hm2 hL).2 l G.labs.length 0 0 (Nat.le_refl _) hp1 hp2
  rw [Nat.zero_mul, Nat.zero_add] at hth
  have hL1 : (andH G H).mc.L = G.labs.length := and_labs
  have e1 : G.mc.L = G.labs.length := rfl
  have e2 : H.mc.L = G.labs.length := hL.symm
  unfold Acc
  rw [hL1, e1, e2, hth]
  cases hx : thrT G.mc G.labs.length 0 l with
  | none => simp [pairO]
  | some x =>
    cases hy : thrT H.mc G.labs.length 0 l with
    | none => simp [pairO]
    | some y =>
      have hx' : x < (G.side G.labs.length).out.length := hlG.2 l G.labs.length 0 x (Nat.le_refl _) hp1 hx
      have hy' : y < (H.side G.labs.length).out.length := hlH.2 l G.labs.length 0 y (by rw [e2]; exact Nat.le_refl _) hp2 hy
      have ho : (andH G H).mc.out G.labs.length (x * (H.side G.labs.length).out.length + y) = G.mc.out G.labs.length x * H.mc.out G.labs.length y := by
        show ((andH G H).side G.labs.length).tell _ = _
        rw [and_side hL, bothS_tell (pair_lt hx' hy'), outP, (div_pair hy').1, (div_pair hy').2, decide_eq_true (Nat.le_refl _)]
        rfl
      simp only [pairO, Option.bind_some, Option.map_some, Option.some.injEq, exists_eq_left']
      rw [ho]
      exact ⟨fun h9 => ⟨Nat.eq_one_of_mul_eq_one_right h9, Nat.eq_one_of_mul_eq_one_left h9⟩, fun h9 => by rw [h9.1, h9.2]⟩
end
end Go.Proofs.YtnkelhmjkmeilaaGreatDoor.H
end
