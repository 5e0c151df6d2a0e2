/- The document's last, Trees: trees made of numbers. -/
import Derived.Test.YtbipdnnalhdoaaaHE
import Derived.Test.YtbipdnnalhdoaaaHA
namespace Go.Proofs.Ytbipdnnalhdoaaa
open Go.RowKit Go.Maps Go.WideMaps
attribute [local go_sem ↓] Go.wp_at_zero Go.wp_at_succ

def subT : List Tr → List Nat → List Tr
  | l, [] => l
  | l, k :: p => match l[k]? with
    | some x => subT x.kids p
    | none => []
theorem subT_cons {l : List Tr} {k : Nat} {p : List Nat} {x : Tr} (h : l[k]? = some x) : subT l (k :: p) = subT x.kids p := by rw [subT, h]
theorem PathOk.snoc : ∀ {p : List Nat} {l : List Tr} {k : Nat}, PathOk l p → k < (subT l p).length → PathOk l (p ++ [k])
  | [], l, k, _, hk => ⟨l[k]'hk, List.getElem?_eq_getElem hk, trivial⟩
  | i :: p, l, k, h, hk => by
    obtain ⟨x, hx, hp⟩ := h
    rw [subT_cons hx] at hk
    exact ⟨x, hx, PathOk.snoc hp hk⟩
theorem subT_put (t : Tr) : ∀ (p : List Nat) (l : List Tr), PathOk l p → 0 < (subT (putT l p t) p).length
  | [], l, _ => by rw [putT, subT]; simp
  | k :: p, l, h => by
    obtain ⟨x, hx, hp⟩ := h
    have hkl : k < l.length := (List.getElem?_eq_some_iff.1 hx).1
    have he : putT l (k :: p) t = l.set k (.mk x.lab (putT x.kids p t)) := by rw [putT, hx]
    rw [he, subT_cons (x := .mk x.lab (putT x.kids p t)) (List.getElem?_set_self hkl)]
    exact subT_put t p x.kids hp
theorem subT_wt : ∀ (p : List Nat) (l : List Tr), wtTs (subT l p) ≤ wtTs l
  | [], l => Nat.le_refl _
  | k :: p, l => by
    cases hx : l[k]? with
    | none => rw [subT, hx]; simp [wtTs]
    | some x =>
      rw [subT_cons hx]
      have := subT_wt p x.kids
      have h1 := wtTs_take hx
      have h2 := wtTs_takele l (k + 1)
      omega
set_option maxHeartbeats 1000000 in
set_option maxRecDepth 100000 in
theorem last_any {w : World} {A P : Option Addr} {c cP : Nat} {l : List Tr} {p : List Nat} (HT : SlP w (fun b => b < w.heap.size) 2 A l.length (trsC l)) (hcp : Cap l.length c) (hP : Rd w w.heap.size 1 P p.length (nats p)) (hpl : p.length ≤ 100) (hpo : PathOk l p) (hw : wtTs l ≤ 1000) (hne : 0 < (subT l p).length) :
    Calls Try.prog 34 #[.slice A l.length c, .slice P p.length cP] w fun e w' => e = .returned (.int .i64 (((subT l p).length - 1 : Nat) : Int)) ∧ w = w' := by
  have hsw := subT_wt p l
  have HP := Lib.hid hP
  have H0 := Lib.hid (And.intro HT (And.intro hpo hcp))
  clear HT hpo hP hcp
  go_enter Try.func34, Try.ntmps34
  go_wp2
  go_loop [5, 0] (fun iv lv => ∃ (i : Nat) (A' : Option Addr) (c' : Nat) (l' : List Tr), iv = .int .i64 i ∧ lv = .slice A' l'.length c' ∧ i ≤ p.length ∧ Hid (SlP w (fun b => b < w.heap.size) 2 A' l'.length (trsC l') ∧ PathOk l' (p.drop i) ∧ subT l' (p.drop i) = subT l p)) (fun iv _ => p.length - (intOf iv).toNat)
  case atStart => exact ⟨0, A, c, l, rfl, rfl, Nat.zero_le _, H0.out.1, H0.out.2.1, rfl⟩
  case round =>
    obtain ⟨i, A', c', l', rfl, rfl, hi, hh⟩ := hrel
    by_cases hlt : i < p.length
    · have hd : p.drop i = p[i] :: p.drop (i + 1) := List.drop_eq_getElem_cons hlt
      obtain ⟨h1, h2, h3⟩ := hh.out
      rw [hd] at h2 h3
      obtain ⟨x, hx, hpx⟩ := h2
      rw [subT_cons hx] at h3
      have hkl : p[i] < l'.length := (List.getElem?_eq_some_iff.1 hx).1
      obtain ⟨a, u, rfl, hab, hu, hca⟩ := HP.out.at_ hlt
      rw [nats_at hlt] at hu
      injection hu with hu
      subst hu
      obtain ⟨ax, K, kc, rfl, hax, k0, k1, hkc, hkx⟩ := trs_at h1 hx
      have hiI : (i : Int) < (p.length : Int) := by omega
      have hi0 : (0 : Int) ≤ (i : Int) := by omega
      have hkI : ((p[i] : Nat) : Int) < (l'.length : Int) := by omega
      have hk0 : (0 : Int) ≤ ((p[i] : Nat) : Int) := by omega
      have HN := Lib.hid (show SlP w (fun b => b < w.heap.size) 2 K x.kids.length (trsC x.kids) ∧ PathOk x.kids (p.drop (i + 1)) ∧ subT x.kids (p.drop (i + 1)) = subT l p from ⟨hkx, hpx, h3⟩)
      clear hd h1 h3 hx hpx hkx hkc hh
      generalize p[i] = k at *
      go_wp2
      go_round
      case rel => exact ⟨i + 1, K, kc, x.kids, by go_num, rfl, by omega, HN.out⟩
      case measure => simp [intOf]; omega
    · obtain rfl : i = p.length := by omega
      have hl' : l' = subT l p := by
        have := hh.out.2.2
        rw [List.drop_length, subT] at this
        exact this
      subst hl'
      have hb := wtTs_ge (subT l p)
      have HR := Lib.hid (show (((subT l p).length - 1 : Nat) : Int) = ((subT l p).length : Int) - 1 by omega)
      generalize hsl : (subT l p).length = m at *
      have HM := Lib.hid hsl
      clear hsl hh
      go_wp2
      go_ret
      exact ⟨ret_int (by rw [HM.out, HR.out]), rfl⟩
/-- what Trees tells: trees of labels below 3, at most 12, in a row of its own -/
def TreesRet (w : World) (e : Ending) (w' : World) : Prop := ∃ (A : Option Addr) (c : Nat) (l : List Tr) (xs : List Value), e = .returned (.slice A l.length c) ∧ w'.ownsRow w.heap.size 38 2 (.slice A l.length c) l.length xs ∧
  CsIsP w' (fun b => (w.heap.size ≤ b ∧ b < w'.heap.size) ∧ (Value.slice A l.length c).ownBlock ≠ some b) (trsC l) xs ∧ LabB 3 l ∧ wtTs l ≤ 12 ∧ Below w.heap.size w w'
theorem own_less {w : World} {base n m c z : Nat} {e : TypeId} {A : Option Addr} {xs : List Value} (h : w.ownsRow base e z (.slice A n c) n xs) (hm : m ≤ n) (hpos : 0 < n) : w.ownsRow base e z (.slice A m c) m (xs.take (m * z)) := by
  obtain ⟨l1, h1⟩ := h
  refine ⟨by rw [List.length_take, l1]; exact Nat.min_eq_left (Nat.mul_le_mul_right _ hm), ?_⟩
  rcases h1 with ⟨h0, _⟩ | ⟨g, cap, cur, hv, hb, hg, hn, hmx, hs, ht⟩
  · injection h0 with _ h0 _; omega
  · injection hv with hv1 _ hv3
    subst hv1 hv3
    refine .inr ⟨g, c, cur, rfl, hb, hg, by omega, hmx, hs, ?_⟩
    rw [← ht, List.take_take, Nat.min_eq_left (Nat.mul_le_mul_right _ hm)]

theorem own_le {w : World} {base base' size n : Nat} {e : TypeId} {v : Value} {xs : List Value} (h : w.ownsRow base e size v n xs) (hb : base' ≤ base) : w.ownsRow base' e size v n xs :=
  ⟨h.1, h.2.elim Or.inl (fun ⟨g, cap, cur, hv, hg, r⟩ => Or.inr ⟨g, cap, cur, hv, Nat.le_trans hb hg, r⟩)⟩
theorem rdP_own {w : World} {base n c z : Nat} {e : TypeId} {A : Option Addr} {xs : List Value} (h : w.ownsRow base e z (.slice A n c) n xs) : RdP w (fun b => (Value.slice A n c).ownBlock = some b ∧ base ≤ b ∧ b < w.heap.size) z A n xs := by
  obtain ⟨h1, h2⟩ := RdP.of_own h
  refine ⟨h1, fun hne => ?_⟩
  obtain ⟨a, ha, hb, hc⟩ := h2 hne
  exact ⟨a, ha, ⟨by rw [ha]; rfl, hb⟩, hc⟩
/-- the path's row and the trees' row: rows of the call's own, apart -/
def TS (w : World) (base : Nat) (P : Option Addr) (cP : Nat) (O : Option Addr) (cO : Nat) (p : List Nat) (l : List Tr) : Prop :=
  w.ownsRow base 3 1 (.slice P p.length cP) p.length (nats p) ∧
  (∃ xs, w.ownsRow base 38 2 (.slice O l.length cO) l.length xs ∧ CsIsP w (fun b => (base ≤ b ∧ b < w.heap.size ∧ (Value.slice P p.length cP).ownBlock ≠ some b) ∧ (Value.slice O l.length cO).ownBlock ≠ some b) (trsC l) xs) ∧
  ∀ q, (Value.slice P p.length cP).ownBlock = some q → (Value.slice O l.length cO).ownBlock ≠ some q
def TSb (w : World) (base : Nat) (P : Option Addr) (n cP : Nat) : Nat → Prop := fun b => base ≤ b ∧ b < w.heap.size ∧ (Value.slice P n cP).ownBlock ≠ some b
theorem TS.nil (w : World) (base : Nat) : TS w base none 0 none 0 [] [] := ⟨⟨rfl, .inl ⟨rfl, rfl⟩⟩, ⟨[], ⟨rfl, .inl ⟨rfl, rfl⟩⟩, CsIsP.nil _ _⟩, fun q hq => by cases hq⟩
section
variable {w w' : World} {base cP cO : Nat} {P O : Option Addr} {p : List Nat} {l l' : List Tr}
theorem TS.sl (h : TS w base P cP O cO p l) : SlP w (TSb w base P p.length cP) 2 O l.length (trsC l) := by
  obtain ⟨h1, ⟨xs, h2, h3⟩, h4⟩ := h
  exact ⟨xs, (rdP_own h2).more fun b hb => ⟨hb.2.1, hb.2.2, fun e => h4 b e hb.1⟩, h3.more fun b hb => hb.1⟩
theorem TS.capO (h : TS w base P cP O cO p l) : Cap l.length cO := by
  obtain ⟨h1, ⟨xs, h2, h3⟩, h4⟩ := h
  exact own_cap h2
theorem TS.put {A : Option Addr} {c : Nat} {xs : List Value} (h : TS w base P cP O cO p l) (hbs : base ≤ w.heap.size) (h1 : w'.ownsRow w.heap.size 38 2 (.slice A l'.length c) l'.length xs)
    (h2 : CsIsP w' (fun b => (TSb w base P p.length cP b ∨ (w.heap.size ≤ b ∧ b < w'.heap.size)) ∧ (Value.slice A l'.length c).ownBlock ≠ some b) (trsC l') xs) (hb : Below w.heap.size w w') : TS w' base P cP A c p l' := by
  obtain ⟨g1, _, _⟩ := h
  refine ⟨own_below g1 hb (Nat.le_refl _), ⟨xs, own_le h1 hbs, ?_⟩, ?_⟩
  · have hs := hb.size
    refine h2.more fun b hb' => ⟨?_, hb'.2⟩
    rcases hb'.1 with h9 | h9
    · exact ⟨h9.1, Nat.lt_of_lt_of_le h9.2.1 hs, h9.2.2⟩
    · exact ⟨Nat.le_trans hbs h9.1, h9.2, fun e => by have := (g1.lt b e).2; omega⟩
  · intro q hq hq2
    have := (g1.lt q hq).2
    have := (h1.lt q hq2).1
    omega
theorem TS.push {w1 : World} {P' : Option Addr} {cP' k : Nat} (h : TS w base P cP O cO p l) (hal : Below w.heap.size w w1) (ho : w'.ownsRow base 3 1 (.slice P' (p.length + 1) cP') (p.length + 1) (nats (p ++ [k])))
    (hg : w1.grownBy w' (Value.slice P p.length cP).ownBlock) (hat : ∀ q, (Value.slice P' (p.length + 1) cP').ownBlock = some q → (Value.slice P p.length cP).ownBlock = some q ∨ w.heap.size ≤ q) : TS w' base P' cP' O cO (p ++ [k]) l := by
  obtain ⟨g1, ⟨xs, g2, g3⟩, g4⟩ := h
  have hk : ∀ q, q < w.heap.size → (Value.slice P p.length cP).ownBlock ≠ some q → w'.heap[q]? = w.heap[q]? := fun q hq hn => (hg.block q (Nat.lt_of_lt_of_le hq hal.size) (fun e => hn e.symm)).trans (hal.block q hq)
  have hsz : w.heap.size ≤ w'.heap.size := Nat.le_trans hal.size hg.size
  have hll : (p ++ [k]).length = p.length + 1 := by simp
  refine ⟨by rw [hll]; exact ho, ⟨xs, fown_block g2 fun q hq => hk q (g2.lt q hq).2 fun e => g4 q e hq, ?_⟩, fun q hq hq2 => ?_⟩
  · refine (g3.keep fun a ha => World.cell?_of_block (hk _ ha.1.2.1 ha.1.2.2)).more fun b hb => ⟨⟨hb.1.1, Nat.lt_of_lt_of_le hb.1.2.1 hsz, fun e => ?_⟩, hb.2⟩
    rw [hll] at e
    rcases hat b e with h9 | h9
    · exact hb.1.2.2 h9
    · have := hb.1.2.1; omega
  · rw [hll] at hq
    rcases hat q hq with h9 | h9
    · exact g4 q h9 hq2
    · have := (g2.lt q hq2).2; omega
theorem TS.pop (h : TS w base P cP O cO p l) (hp : 0 < p.length) : TS w base P cP O cO (p.take (p.length - 1)) l := by
  obtain ⟨g1, ⟨xs, g2, g3⟩, g4⟩ := h
  have hll : (p.take (p.length - 1)).length = p.length - 1 := by rw [List.length_take]; omega
  have hx := own_less g1 (show p.length - 1 ≤ p.length by omega) hp
  have hob : (Value.slice P (p.length - 1) cP).ownBlock = (Value.slice P p.length cP).ownBlock := by cases P <;> rfl
  refine ⟨?_, ⟨xs, g2, ?_⟩, ?_⟩
  · rw [hll]
    rw [Nat.mul_one] at hx
    have : nats (p.take (p.length - 1)) = (nats p).take (p.length - 1) := by unfold nats; rw [List.map_take]
    rw [this]
    exact hx
  · rw [hll, hob]; exact g3
  · rw [hll, hob]; exact g4
end
set_option maxHeartbeats 4000000 in
set_option maxRecDepth 100000 in
theorem Trees_any {w : World} {A : Option Addr} {c : Nat} {L : List Int} (HL : SlP w (fun b => b < w.heap.size) 1 A L.length (L.map .i)) (hlb : L.length ≤ 9223372036854775807) (hb : ∀ x ∈ L, IntB x) :
    Calls Try.prog 13 #[.slice A L.length c] w (TreesRet w) := by
  have HB := Lib.hid hb
  have HL1 := Lib.hid HL
  clear hb HL
  go_enter Try.func13, Try.ntmps13
  go_wp2
  go_loopw [5, 3, 4] (fun iv pv ov wr => ∃ (i cP cO : Nat) (P O : Option Addr) (p : List Nat) (l : List Tr), iv = .int .i64 i ∧ pv = .slice P p.length cP ∧ ov = .slice O l.length cO ∧ i ≤ L.length ∧ i ≤ 12 ∧ p.length ≤ i ∧ l.length ≤ 12 ∧ p.length ≤ cP ∧ Hid (PathOk l p ∧ LabB 3 l ∧ wtTs l = i) ∧
      TS wr w.heap.size P cP O cO p l ∧ Below w.heap.size w wr) (fun iv _ _ _ => L.length - (intOf iv).toNat)
  case atStart => exact ⟨0, 0, 0, none, none, [], [], rfl, rfl, rfl, Nat.zero_le _, Nat.zero_le _, Nat.le_refl _, Nat.zero_le _, Nat.le_refl _, ⟨trivial, LabB.nil, rfl⟩, TS.nil _ _, Below.refl _ _⟩
  case round =>
    obtain ⟨i, cP, cO, P, O, p, l, rfl, rfl, rfl, hiL, hi12, hpi, hl12, hpc, hh, hT, hbr⟩ := hrel
    have HT := Lib.hid hT
    have HB' := Lib.hid hbr
    have hbs := hbr.size
    clear hT hbr
    by_cases h12 : i < 12
    · have h12I : (i : Int) < 12 := by omega
      by_cases hlt : i < L.length
      · have hiI : (i : Int) < (L.length : Int) := by omega
        have hi0 : (0 : Int) ≤ (i : Int) := by omega
        obtain ⟨x, hx⟩ : ∃ x, L[i]? = some x := ⟨_, List.getElem?_eq_getElem hlt⟩
        have hLr := SlP.keep HL1.out fun q hq => HB'.out.cell hq
        obtain ⟨a, rfl, hab, k0⟩ := ints_at' hLr hx
        have HR := Lib.hid (round_any wr (HB.out x (List.mem_of_getElem? hx)) (m := 9) (by omega) (by omega))
        clear hx hLr
        go_wp2_with fail
        refine HR.out.mono ?_
        rintro e w' ⟨r, hr, rfl, rfl⟩
        clear k0 hab HR
        obtain ⟨hPO, hLB, hWT⟩ := hh.out
        obtain ⟨f1, f2, f3⟩ := putT_facts 3 ((r / 3 : Nat) : Int) (by omega) (by omega) p l hPO
        have f2 := f2 hLB
        have f4 := subT_put (.mk ((r / 3 : Nat) : Int) []) p l hPO
        have HC := Lib.hid (tput_any p wr (TSb wr w.heap.size P p.length cP) O P cO cP l ((r / 3 : Nat) : Int) (fun b hb => hb.2.1) HT.out.sl HT.out.capO (Rd.of_own HT.out.1) hpc (by omega) (by omega) hPO)
        generalize putT l p (.mk ((r / 3 : Nat) : Int) []) = l2 at *
        rw [hWT] at f1
        clear hPO hLB hWT
        go_wp2_with fail
        refine HC.out.mono ?_
        rintro e w2 ⟨A2, c2, xs, rfl, ho2, hcs2, b2⟩
        have HT2 := Lib.hid (HT.out.put hbs ho2 hcs2 b2)
        have HB2 := Lib.hid (HB'.out.trans (b2.mono hbs))
        have hbs2 := HB2.out.size
        have hl2 : l2.length ≤ 12 := by have := wtTs_ge l2; omega
        have HF := Lib.hid (And.intro f3 (And.intro f2 (And.intro f1 f4)))
        clear ho2 hcs2 b2 HC HT HB' hh f1 f2 f3 f4 hl12
        have hi1 : i + 1 ≤ 12 := h12
        have hiL1 : i + 1 ≤ L.length := hlt
        have hpc0 : 0 ≤ p.length := Nat.zero_le _
        have ht : r % 3 = 0 ∨ r % 3 = 1 ∨ r % 3 = 2 := by omega
        rcases ht with ht | ht | ht
        · have htI : (r : Int) % 3 = 0 := by omega
          clear ht
          go_wp2
          go_roundw
          case rel => exact ⟨i + 1, cP, c2, P, A2, p, l2, by go_num, rfl, rfl, hiL1, hi1, by omega, hl2, hpc, ⟨HF.out.1, HF.out.2.1, HF.out.2.2.1⟩, HT2.out, HB2.out⟩
          case measure => simp [intOf]; omega
        · have htI : (r : Int) % 3 = 1 := by omega
          clear ht
          have hwl : wtTs l2 ≤ 1000 := by have := HF.out.2.2.1; omega
          have HCL := Lib.hid (last_any (cP := cP) (HT2.out.sl.more fun b hb => hb.2.1) HT2.out.capO (Rd.of_own HT2.out.1) (by omega) HF.out.1 hwl HF.out.2.2.2)
          have HK := Lib.hid (HF.out.1.snoc (show (subT l2 p).length - 1 < (subT l2 p).length by have := HF.out.2.2.2; omega))
          generalize (subT l2 p).length - 1 = k at *
          have hown := HT2.out.1
          go_upto_region 9 with fail
          go_wp2_with (first | (refine HCL.out.mono ?_; rintro e w4 ⟨rfl, rfl⟩) | (at_builtin; go_must (refine wpList_push_at rfl _ _ _ rfl w.heap.size rowIn P p.length cP _ rfl hown [.int .i64 (k : Int)] _ rfl rfl (by simp [Value.oneCell']) (by unfold maxLen; omega) (by omega) hbs2 ?_); intro R4 c4 W4 hc4 ho4 hg4 hat4))
          have HT4 := Lib.hid (HT2.out.push (Below.refl _ _) (by unfold nats at ho4 ⊢; rw [List.map_append]; exact ho4) hg4 hat4)
          have HB4 := Lib.hid (HB2.out.grown hg4 hbs2 (fun q hq => (HT2.out.1.lt q hq).1))
          have hll : (p ++ [k]).length = p.length + 1 := by simp
          clear hown ho4 hg4 hat4
          go_wp2
          go_roundw
          case rel => exact ⟨i + 1, c4, c2, R4, A2, p ++ [k], l2, by go_num, by rw [hll], rfl, hiL1, hi1, by omega, hl2, by omega, ⟨HK.out, HF.out.2.1, HF.out.2.2.1⟩, HT4.out, HB4.out⟩
          case measure => simp [intOf]; omega
        · have htI : (r : Int) % 3 = 2 := by omega
          clear ht
          by_cases hp0 : p.length = 0
          · have hpI : ¬ (0 : Int) < (p.length : Int) := by omega
            clear hp0
            go_wp2
            go_roundw
            case rel => exact ⟨i + 1, cP, c2, P, A2, p, l2, by go_num, rfl, rfl, hiL1, hi1, by omega, hl2, hpc, ⟨HF.out.1, HF.out.2.1, HF.out.2.2.1⟩, HT2.out, HB2.out⟩
            case measure => simp [intOf]; omega
          · have hpI : (0 : Int) < (p.length : Int) := by omega
            have hll : (p.take (p.length - 1)).length = p.length - 1 := by rw [List.length_take]; omega
            go_wp2
            go_roundw
            case rel => exact ⟨i + 1, cP, c2, P, A2, p.take (p.length - 1), l2, by go_num, by rw [hll], rfl, hiL1, hi1, by omega, hl2, by omega, ⟨HF.out.1.take _, HF.out.2.1, HF.out.2.2.1⟩, HT2.out.pop (by omega), HB2.out⟩
            case measure => simp [intOf]; omega
      · obtain rfl : i = L.length := by omega
        have hiI : ¬ (L.length : Int) < (L.length : Int) := by omega
        clear hlt
        have HRET := Lib.hid (show TreesRet w (.returned (.slice O l.length cO)) wr from by
          obtain ⟨_, ⟨xs, h2, h3⟩, _⟩ := HT.out
          exact ⟨O, cO, l, xs, rfl, h2, h3.more fun b hb => ⟨⟨hb.1.1, hb.1.2.1⟩, hb.2⟩, hh.out.2.1, by rw [hh.out.2.2]; exact hi12, HB'.out⟩)
        clear HT HB' hh
        go_wp2
        go_ret
        exact HRET.out
    · have h12I : ¬ (i : Int) < 12 := by omega
      have hx : (i : Int) < (L.length : Int) ∨ ¬ (i : Int) < (L.length : Int) := by omega
      have HRET := Lib.hid (show TreesRet w (.returned (.slice O l.length cO)) wr from by
        obtain ⟨_, ⟨xs, h2, h3⟩, _⟩ := HT.out
        exact ⟨O, cO, l, xs, rfl, h2, h3.more fun b hb => ⟨⟨hb.1.1, hb.1.2.1⟩, hb.2⟩, hh.out.2.1, by rw [hh.out.2.2]; exact hi12, HB'.out⟩)
      clear HT HB' hh
      rcases hx with hx | hx
      all_goals
        go_wp2
        go_ret
        exact HRET.out
end Go.Proofs.Ytbipdnnalhdoaaa
