/- The document's put: trees with one more at the end of a path. -/
import Derived.Test.YtbipdnnalhdoaaaHp
import Derived.Test.YtbipdnnalhdoaaaHw
import Derived.Test.YtbipdnnalhdoaaaHk
namespace Go.Proofs.Ytbipdnnalhdoaaa
open Go.RowKit Go.Maps Go.WideMaps
attribute [local go_sem ↓] Go.wp_at_zero Go.wp_at_succ

/-- 'append([]E(nil), x...)' -/
theorem run_copy {P : Program} {w : World} (ty t : TypeId) (base : Nat) {e : TypeId} {size bytes : Nat} (R : Row P t e size bytes)
    (B : Nat) (Y : Option Addr) (m c1 : Nat) (ys : List Value) (hr : Rd w B size Y m ys) (h1 : ∀ u ∈ ys, u.oneCell' = true)
    (h63 : m ≤ maxLen) (hbytes : m * bytes ≤ 140737488355328) (hbase : base ≤ w.heap.size) :
    ∃ A' c' w', (Builtin.append_ #[t, t] ty #[.slice none 0 0, .slice Y m c1]).run P w = .ok (.slice A' m c') w' ∧ m ≤ c' ∧ w'.ownsRow base e size (.slice A' m c') m ys ∧ Below w.heap.size w w' ∧ (∀ q, (Value.slice A' m c').ownBlock = some q → w.heap.size ≤ q) := by
  obtain ⟨i, z, hi, hz, hsize, hby, hzs⟩ := R.ex
  rcases Y with _ | y
  · have hys : ys = [] := by
      rcases ys with _ | ⟨u, ys⟩
      · rfl
      · obtain ⟨a, e, _⟩ := hr.2 (by simp); cases e
    subst hys
    have hm : m = 0 := by
      have h0 := hr.1
      have hp := R.pos
      rw [List.length_nil] at h0
      rcases Nat.eq_zero_or_pos m with h' | h'
      · exact h'
      · have := Nat.mul_pos h' hp; omega
    subst hm
    have hrun : (Builtin.append_ #[t, t] ty #[.slice none 0 0, .slice none 0 c1]).run P w = .ok (.slice none 0 0) w := by
      simp [Builtin.append_, run_underlying R.und, sizeOf, typeInfo, hi, Builtin.lenOf, Builtin.firstCells]
    exact ⟨none, 0, w, hrun, Nat.le_refl _, World.ownsRow_nil _ _ _ _, Below.refl _ _, fun q hq => by simp [Value.ownBlock] at hq⟩
  · have hcell : ∀ j u, ys[j]? = some u → w.cell? (y.add j) = some u := fun j u hu => by
      obtain ⟨y', e, _, hc⟩ := hr.2 (by intro e; rw [e] at hu; simp at hu)
      injection e with e
      subst e
      exact hc j u hu
    obtain ⟨v', w', hrun, h2, h3, h4, h5⟩ := run_append_own_at (P := P) w base t ty e i z size bytes R.und hi hz hsize hby hzs R.pos (.slice none 0 0) 0 [] (World.ownsRow_nil _ _ _ _) y m c1 ys hr.1 hcell h1 (by omega) (by rw [Nat.zero_add]; exact hbytes) hbase
    rw [Nat.zero_add, List.nil_append] at h2
    obtain ⟨A', c', rfl, hc'⟩ := own_shape h2
    refine ⟨A', c', w', hrun, hc', h2, ⟨h3.os, h3.tape, h3.output, h3.size, fun k hk => h3.block k hk (by simp [Value.ownBlock])⟩, fun q hq => ?_⟩
    rcases h5 with h5 | h5
    · rw [h5] at hq; simp [Value.ownBlock] at hq
    · rw [h5] at hq
      injection hq with hq
      omega
/-- .. at a step of a region that draws its order -/
theorem step_copy {P : Program} {w : World} {ops : Array Oper} {o : Oper} {a : Act} {Q : Exit → Act → World → Prop} {K : Act → World → Prop} {E : Prop} (hgd : o.guard = none) (s x : Operand) (t : TypeId) (ho : o.op = .call { callee := .builtin .append, args := #[s, x], argTypes := #[t, t] })
    (base : Nat) {e : TypeId} {size bytes : Nat} (R : Row P t e size bytes) (hs : a.eval s = .slice none 0 0)
    (B : Nat) (Y : Option Addr) (m c1 : Nat) (ys : List Value) (hx : a.eval x = .slice Y m c1) (hr : Rd w B size Y m ys) (h1 : ∀ u ∈ ys, u.oneCell' = true)
    (h63 : m ≤ maxLen) (hbytes : m * bytes ≤ 140737488355328) (hbase : base ≤ w.heap.size)
    (h : ∀ A' c' w', m ≤ c' → w'.ownsRow base e size (.slice A' m c') m ys → Below w.heap.size w w' → (∀ q, (Value.slice A' m c').ownBlock = some q → w.heap.size ≤ q) → K (a.put o.dst (.slice A' m c')) w') :
    if Region.wanted o (yielded ops a.tmps) = true then Oper.wp P o a w K Q else E := by
  have hw : Region.wanted o (yielded ops a.tmps) = true := by simp [Region.wanted, hgd]
  rw [if_pos hw]
  obtain ⟨A', c', w', hrun, h2, h3, h4, h5⟩ := run_copy (P := P) (w := w) o.type t base R B Y m c1 ys hr h1 h63 hbytes hbase
  unfold Oper.wp execOp
  simp only [ho, resolve, invoke, builtin, Sem.run_bind, Sem.run_pure, Result.andThen_ok, List.map_toArray, List.map_cons, List.map_nil, hs, hx, hrun]
  exact h A' c' w' h2 h3 h4 h5
theorem wpList_copy {P : Program} {w : World} {ops : Array Oper} {rest : List Oper} {o : Oper} {a : Act} {Q : Exit → Act → World → Prop} (hgd : o.guard = none) (s x : Operand) (t : TypeId) (ho : o.op = .call { callee := .builtin .append, args := #[s, x], argTypes := #[t, t] })
    (base : Nat) {e : TypeId} {size bytes : Nat} (R : Row P t e size bytes) (hs : a.eval s = .slice none 0 0)
    (B : Nat) (Y : Option Addr) (m c1 : Nat) (ys : List Value) (hx : a.eval x = .slice Y m c1) (hr : Rd w B size Y m ys) (h1 : ∀ u ∈ ys, u.oneCell' = true)
    (h63 : m ≤ maxLen) (hbytes : m * bytes ≤ 140737488355328) (hbase : base ≤ w.heap.size)
    (h : ∀ A' c' w', m ≤ c' → w'.ownsRow base e size (.slice A' m c') m ys → Below w.heap.size w w' → (∀ q, (Value.slice A' m c').ownBlock = some q → w.heap.size ≤ q) → wpList P ops Q rest (a.put o.dst (.slice A' m c')) w') :
    wpList P ops Q (o :: rest) a w := by
  refine wpList_plain hgd fun K hK => ?_
  obtain ⟨A', c', w', hrun, h2, h3, h4, h5⟩ := run_copy (P := P) (w := w) o.type t base R B Y m c1 ys hr h1 h63 hbytes hbase
  unfold Oper.wp execOp
  simp only [ho, resolve, invoke, builtin, Sem.run_bind, Sem.run_pure, Result.andThen_ok, List.map_toArray, List.map_cons, List.map_nil, hs, hx, hrun]
  exact hK _ _ (h A' c' w' h2 h3 h4 h5)


def putT : List Tr → List Nat → Tr → List Tr
  | l, [], t => l ++ [t]
  | l, k :: p, t => match l[k]? with
    | some x => l.set k (.mk x.lab (putT x.kids p t))
    | none => l
/-- a path leads to a tree -/
def PathOk : List Tr → List Nat → Prop
  | _, [] => True
  | l, k :: p => ∃ x, l[k]? = some x ∧ PathOk x.kids p
/-- labels are below n -/
inductive LabB (n : Nat) : List Tr → Prop
  | nil : LabB n []
  | cons {t : Tr} {l : List Tr} : 0 ≤ t.lab → t.lab < n → LabB n t.kids → LabB n l → LabB n (t :: l)
theorem LabB.append {n : Nat} {l m : List Tr} (h : LabB n l) (h' : LabB n m) : LabB n (l ++ m) := by
  induction l with
  | nil => exact h'
  | cons t l ih => cases h with | cons a b c d => exact LabB.cons a b c (ih d)
theorem LabB.at_ {n : Nat} : ∀ {l : List Tr} {k : Nat} {x : Tr}, LabB n l → l[k]? = some x → 0 ≤ x.lab ∧ x.lab < n ∧ LabB n x.kids
  | [], k, x, _, hk => by simp at hk
  | t :: l, 0, x, h, hk => by simp at hk; subst hk; cases h with | cons a b c d => exact ⟨a, b, c⟩
  | t :: l, k + 1, x, h, hk => by cases h with | cons a b c d => exact LabB.at_ d (by simpa using hk)
theorem LabB.set {n : Nat} : ∀ {l : List Tr} {k : Nat} {x : Tr}, LabB n l → 0 ≤ x.lab → x.lab < n → LabB n x.kids → LabB n (l.set k x)
  | [], k, x, _, _, _, _ => LabB.nil
  | t :: l, 0, x, h, a, b, c => by cases h with | cons _ _ _ d => exact LabB.cons a b c d
  | t :: l, k + 1, x, h, a, b, c => by cases h with | cons a' b' c' d => exact LabB.cons a' b' c' (LabB.set d a b c)
theorem wtTs_set : ∀ {l : List Tr} {k : Nat} {x y : Tr}, l[k]? = some x → wtTs (l.set k y) + wtT x = wtTs l + wtT y
  | [], k, x, y, h => by simp at h
  | t :: l, 0, x, y, h => by simp at h; subst h; rw [List.set_cons_zero, wtTs, wtTs]; omega
  | t :: l, k + 1, x, y, h => by
    have := wtTs_set (l := l) (k := k) (x := x) (y := y) (by simpa using h)
    rw [List.set_cons_succ, wtTs, wtTs]; omega
theorem putT_facts (n : Nat) (lab : Int) (h0 : 0 ≤ lab) (hn : lab < n) : ∀ (p : List Nat) (l : List Tr), PathOk l p → wtTs (putT l p (.mk lab [])) = wtTs l + 1 ∧ (LabB n l → LabB n (putT l p (.mk lab []))) ∧ PathOk (putT l p (.mk lab [])) p
  | [], l, _ => by
    refine ⟨?_, fun h => ?_, trivial⟩
    · rw [putT, wtTs_append, wtTs, wtTs, wtT, wtTs]
    · rw [putT]; exact h.append (LabB.cons h0 hn LabB.nil LabB.nil)
  | k :: p, l, h => by
    obtain ⟨x, hx, hp⟩ := h
    obtain ⟨h1, h2, h3⟩ := putT_facts n lab h0 hn p x.kids hp
    have hkl : k < l.length := (List.getElem?_eq_some_iff.1 hx).1
    have he : putT l (k :: p) (.mk lab []) = l.set k (.mk x.lab (putT x.kids p (.mk lab []))) := by rw [putT, hx]
    rw [he]
    refine ⟨?_, fun hl => ?_, ⟨_, List.getElem?_set_self hkl, h3⟩⟩
    · have := wtTs_set (y := Tr.mk x.lab (putT x.kids p (.mk lab []))) hx
      rw [wtT_eq x, wtT, h1] at this
      omega
    · obtain ⟨a, b, c⟩ := hl.at_ hx
      exact hl.set a b (h2 c)
theorem PathOk.take : ∀ {p : List Nat} {l : List Tr} (k : Nat), PathOk l p → PathOk l (p.take k)
  | [], l, k, _ => by simp [PathOk]
  | i :: p, l, 0, _ => trivial
  | i :: p, l, k + 1, h => by
    obtain ⟨x, hx, hp⟩ := h
    exact ⟨x, hx, PathOk.take k hp⟩
/-- what put tells: a row of its own -/
def PutRet (w : World) (S : Nat → Prop) (l' : List Tr) (e : Ending) (w' : World) : Prop := ∃ (A : Option Addr) (c : Nat) (xs : List Value), e = .returned (.slice A l'.length c) ∧ w'.ownsRow w.heap.size 38 2 (.slice A l'.length c) l'.length xs ∧
  CsIsP w' (fun b => (S b ∨ (w.heap.size ≤ b ∧ b < w'.heap.size)) ∧ (Value.slice A l'.length c).ownBlock ≠ some b) (trsC l') xs ∧ Below w.heap.size w w'
def TPutOk (p : List Nat) : Prop := ∀ (w : World) (S : Nat → Prop) (A P : Option Addr) (c cP : Nat) (l : List Tr) (lab : Int), (∀ b, S b → b < w.heap.size) → SlP w S 2 A l.length (trsC l) → Cap l.length c → Rd w w.heap.size 1 P p.length (nats p) → p.length ≤ cP → p.length ≤ 100 → wtTs l ≤ 100 → PathOk l p →
  Calls Try.prog 33 #[.slice A l.length c, .slice P p.length cP, .agg #[.int .i64 lab, .slice none 0 0]] w (PutRet w S (putT l p (.mk lab [])))

theorem PutRet.sl {w w' : World} {S : Nat → Prop} {A : Option Addr} {n c : Nat} {cs : List Cl} {xs : List Value} (h : w'.ownsRow w.heap.size 38 2 (.slice A n c) n xs) (h' : CsIsP w' (fun b => (S b ∨ (w.heap.size ≤ b ∧ b < w'.heap.size)) ∧ (Value.slice A n c).ownBlock ≠ some b) cs xs) :
    SlP w' (fun b => S b ∨ (w.heap.size ≤ b ∧ b < w'.heap.size)) 2 A n cs := ⟨xs, (RdP.of_own h).more fun b hb => .inr hb, h'.more fun b hb => hb.1⟩
set_option maxHeartbeats 2000000 in
set_option maxRecDepth 100000 in
theorem tput_nil : TPutOk [] := by
  intro w S A P c cP l lab hS hT hcp hP hPc hPl hw _
  obtain ⟨xs, hrd, hcs⟩ := hT
  have hlen := wtTs_ge l
  have h0 := heap_alloc_new w (.cells #[.int .i64 lab, .slice none 0 0] 38)
  have b0 : Below w.heap.size w (w.alloc (.cells #[.int .i64 lab, .slice none 0 0] 38)) := (Below.refl _ w).alloc (Nat.le_refl _) _
  have s0 : (w.alloc (.cells #[.int .i64 lab, .slice none 0 0] 38)).heap.size = w.heap.size + 1 := World.size_alloc _ _
  have hrd0 : Rd (w.alloc (.cells #[.int .i64 lab, .slice none 0 0] 38)) w.heap.size 2 A l.length xs := (hrd.keep fun p hp => b0.cell (hS _ hp)).more hS
  have hxo := hcs.one
  have hPL := Lib.hid (show putT l [] (.mk lab []) = l ++ [.mk lab []] from rfl)
  rw [hPL.out]
  simp only [List.length_nil]
  go_enter Try.func33, Try.ntmps33
  go_upto_region 3 with (at_builtin; go_must (refine wpList_copy rfl _ _ _ rfl w.heap.size rowTr rfl w.heap.size A l.length c xs rfl hrd0 hxo (by unfold maxLen; omega) (by omega) b0.size ?_))
  intro A5 c5 W2 hc5 ho5 b5 hat5
  have hnb := (b5.block w.heap.size (by omega)).trans h0
  have x0 := Lib.cell_of_heap hnb 0
  have x1 := Lib.cell_of_heap hnb 1
  simp only [List.getElem?_toArray, List.getElem?_cons_zero, List.getElem?_cons_succ] at x0 x1
  have HO5 := Lib.hid ho5
  have HB2 := Lib.hid (b0.trans (b5.mono (by omega)))
  have HCS := Lib.hid hcs
  have HS := Lib.hid hS
  have hs2 : w.heap.size ≤ W2.heap.size := HB2.out.size
  have hat : ∀ q, (Value.slice A5 l.length c5).ownBlock = some q → w.heap.size + 1 ≤ q := fun q hq => by have := hat5 q hq; omega
  have HAT := Lib.hid hat
  clear hrd hcs hrd0 h0 b0 b5 hnb hat5 hS hat
  have ho := HO5.out
  go_wp2_with (at_builtin; go_must (refine wpList_push_at rfl _ _ _ rfl w.heap.size rowTr A5 l.length c5 _ rfl ho [.int .i64 lab, .slice none 0 0] _ rfl rfl (by simp [Value.oneCell']) (by unfold maxLen; omega) (by omega) hs2 ?_); intro A7 c7 W7 hc7 ho7 hg7 hat7)
  have hall : ∀ q, (Value.slice A7 (l.length + 1) c7).ownBlock = some q → w.heap.size ≤ q := fun q hq => (ho7.lt q hq).1
  have hS7 : CsIsP W7 (fun b => (S b ∨ (w.heap.size ≤ b ∧ b < W7.heap.size)) ∧ (Value.slice A7 (l.length + 1) c7).ownBlock ≠ some b) (trsC (l ++ [.mk lab []])) (xs ++ [.int .i64 lab, .slice none 0 0]) := by
    rw [trsC_append]
    refine CsIsP.append ((HCS.out.keep fun p hp => ?_).more fun b hb => ⟨.inl hb, fun e => by have := hall b e; have := HS.out b hb; omega⟩) ?_
    · have hpw := HS.out _ hp
      have hne : some p.block ≠ (Value.slice A5 l.length c5).ownBlock := fun e => by have := HAT.out _ e.symm; omega
      exact (World.cell?_of_block (hg7.block p.block (by omega) hne)).trans (HB2.out.cell hpw)
    · rw [trsC, trC_eq, trsC]
      exact CsIsP.cons (CIsP.int _ _ _) (CsIsP.cons (CIsP.sl (SlP.nil _ _ _ _) ⟨Nat.le_refl _, by decide⟩) (CsIsP.nil _ _))
  have hll : (l ++ [Tr.mk lab []]).length = l.length + 1 := by simp
  have HRET := Lib.hid (show PutRet w S (l ++ [.mk lab []]) (.returned (.slice A7 (l.length + 1) c7)) W7 from
    ⟨A7, c7, _, by rw [hll], by rw [hll]; exact ho7, by rw [hll]; exact hS7, HB2.out.grown hg7 hs2 (fun q hq => by have := HAT.out q hq; omega)⟩)
  clear hS7 ho7 hg7 hat7 hll ho hall
  go_ret
  exact HRET.out

/-- a kid's row stored into a tree of a copied row -/
theorem setKids_trs {w W3 : World} {S : Nat → Prop} {R i c6 : Nat} {A6 : Option Addr} {l kids : List Tr} {xs : List Value} {x : Tr} (hS : ∀ b, S b → b < w.heap.size) (hR1 : w.heap.size ≤ R) (hcs : CsIsP w S (trsC l) xs) (hx : l[i]? = some x)
    (hb : Below w.heap.size w W3) (hk : SlP W3 (fun b => b ≠ R ∧ (S b ∨ (w.heap.size ≤ b ∧ b < W3.heap.size))) 2 A6 kids.length (trsC kids)) (hc : Cap kids.length c6) :
    CsIsP (W3.setCell ⟨R, i * 2 + 1, none⟩ (.slice A6 kids.length c6)) (fun b => (S b ∨ (w.heap.size ≤ b ∧ b < (W3.setCell ⟨R, i * 2 + 1, none⟩ (.slice A6 kids.length c6)).heap.size)) ∧ some R ≠ some b) (trsC (l.set i (.mk x.lab kids))) (xs.set (i * 2 + 1) (.slice A6 kids.length c6)) := by
  have hil : i < l.length := (List.getElem?_eq_some_iff.1 hx).1
  have hxi : l[i] = x := (List.getElem?_eq_some_iff.1 hx).2
  have hlen := hcs.len
  rw [trsC_len] at hlen
  have hset : trsC (l.set i (.mk x.lab kids)) = (trsC l).set (i * 2 + 1) (.s 2 kids.length (trsC kids)) := by
    apply List.ext_getElem?
    intro j
    by_cases hj : j < l.length * 2
    · have hj2 : j / 2 < l.length := by omega
      have h1 : j / 2 < (l.set i (.mk x.lab kids)).length := by rw [List.length_set]; exact hj2
      obtain ⟨a0, a1⟩ := trsC_at h1
      obtain ⟨b0, b1⟩ := trsC_at hj2
      rw [List.getElem?_set]
      rcases Nat.mod_two_eq_zero_or_one j with h | h
      · have e : j = j / 2 * 2 := by omega
        rw [if_neg (by omega), e, a0, b0]
        by_cases hji : j / 2 = i
        · simp only [hji, List.getElem_set_self, hxi]
          rfl
        · rw [List.getElem_set_ne (fun e => hji e.symm)]
      · have e : j = j / 2 * 2 + 1 := by omega
        by_cases hji : j / 2 = i
        · rw [if_pos (by omega), if_pos (by rw [trsC_len]; omega), e, a1]
          simp only [hji, List.getElem_set_self]
          rfl
        · rw [if_neg (by omega), e, a1, b1, List.getElem_set_ne (fun e => hji e.symm)]
    · rw [List.getElem?_eq_none (by rw [trsC_len, List.length_set]; omega), List.getElem?_eq_none (by rw [List.length_set, trsC_len]; omega)]
  have hoc : ∀ p : Addr, p.block ≠ R → (W3.setCell ⟨R, i * 2 + 1, none⟩ (.slice A6 kids.length c6)).cell? p = W3.cell? p := fun p hp => World.cell?_of_block (heap_set_other (p := ⟨R, i * 2 + 1, none⟩) hp)
  rw [hset]
  refine CsIsP.set ((hcs.keep fun p hp => ?_).more fun b hb' => ⟨.inl hb', fun e => by injection e with e; have := hS b hb'; omega⟩) (CIsP.sl ((hk.keep fun p hp => hoc p hp.1).more fun b hb' => ?_) hc) _
  · have := hS _ hp
    exact (hoc p (by omega)).trans (hb.cell this)
  · rw [size_set]
    exact ⟨hb'.2, fun e => by injection e with e; exact hb'.1 e.symm⟩
set_option maxHeartbeats 2000000 in
set_option maxRecDepth 100000 in
theorem tput_cons (k : Nat) (p : List Nat) (ih : TPutOk p) : TPutOk (k :: p) := by
  intro w S A P c cP l lab hS hT hcp hP hPc hPl hw hpo
  obtain ⟨x, hx, hpx⟩ := hpo
  have hkl : k < l.length := (List.getElem?_eq_some_iff.1 hx).1
  have hres : putT l (k :: p) (.mk lab []) = l.set k (.mk x.lab (putT x.kids p (.mk lab []))) := by rw [putT, hx]
  rw [hres]
  generalize hrl : putT x.kids p (.mk lab []) = rl
  have hwx : wtTs x.kids ≤ 100 := by
    have := wtTs_take hx
    have := wtTs_takele l (k + 1)
    omega
  have hlen := wtTs_ge l
  obtain ⟨ax, Kx, kc, hAx, hSx, kx0, kx1, hkcp, hkx⟩ := trs_at hT hx
  obtain ⟨xs, hrd, hcs⟩ := hT
  have h0 := heap_alloc_new w (.cells #[.int .i64 lab, .slice none 0 0] 38)
  have b0 : Below w.heap.size w (w.alloc (.cells #[.int .i64 lab, .slice none 0 0] 38)) := (Below.refl _ w).alloc (Nat.le_refl _) _
  have s0 : (w.alloc (.cells #[.int .i64 lab, .slice none 0 0] 38)).heap.size = w.heap.size + 1 := World.size_alloc _ _
  have hrd0 : Rd (w.alloc (.cells #[.int .i64 lab, .slice none 0 0] 38)) w.heap.size 2 A l.length xs := (hrd.keep fun p hp => b0.cell (hS _ hp)).more hS
  have hxo := hcs.one
  go_enter Try.func33, Try.ntmps33
  go_upto_region 3 with (at_builtin; go_must (refine wpList_copy rfl _ _ _ rfl w.heap.size rowTr rfl w.heap.size A l.length c xs rfl hrd0 hxo (by unfold maxLen; omega) (by omega) b0.size ?_))
  intro A5 c5 W2 hc5 ho5 b5 hat5
  have hn5 : 0 < l.length := by omega
  obtain ⟨R, cap5, hv, hR1, hR2⟩ := ho5.form hn5
  injection hv with hv1 _ hv3
  subst hv1 hv3
  have hRw : w.heap.size < R := by have := hat5 R rfl; omega
  have B2 : Below w.heap.size w W2 := b0.trans (b5.mono (by omega))
  have hnb := (b5.block w.heap.size (by omega)).trans h0
  obtain ⟨a, u, rfl, hab, hu, hca0⟩ := hP.at_ (k := 0) (by simp)
  have hu' : u = .int .i64 (k : Int) := by
    have := hu
    simp [nats] at this
    exact this.symm
  subst hu'
  have hca : W2.cell? a = some (.int .i64 (k : Int)) := (B2.cell (p := a) hab).trans (by rw [show a.add 0 = a by unfold Addr.add; rw [if_pos rfl]] at hca0; exact hca0)
  have hgo : ∀ j, j < l.length * 2 → W2.cell? ⟨R, j, none⟩ = xs[j]? := fun j hj => ho5.cellAt j hj
  have hcs1 := hcs.at_ (trsC_at hkl).2
  obtain ⟨v1, hv1, hv2⟩ := hcs1
  have hxk : l[k] = x := (List.getElem?_eq_some_iff.1 hx).2
  rw [hxk] at hv2
  obtain ⟨A3, c3, rfl, hcap3, hk3⟩ := hv2.isSl
  have hkc : W2.cell? ⟨R, k * 2 + 1, none⟩ = some (.slice A3 x.kids.length c3) := (hgo _ (by omega)).trans hv1
  have hkf : W2.frozen? ⟨R, k * 2 + 1, none⟩ = false := ho5.frozenAt _
  have hcut := Rd.cut (k := 1) (cap := cP) hP (by simp) hPc
  have x0 := Lib.cell_of_heap hnb 0
  have x1 := Lib.cell_of_heap hnb 1
  simp only [List.getElem?_toArray, List.getElem?_cons_zero, List.getElem?_cons_succ] at x0 x1
  obtain ⟨Ap, cp, hAp, hcp', hif⟩ : ∃ Ap cp, Rd w w.heap.size 1 Ap p.length (nats p) ∧ p.length ≤ cp ∧ ((cP = 1 ∧ p.length = 0 ∧ Ap = some a ∧ cp = 0) ∨ (¬ cP = 1 ∧ Ap = some ⟨a.block, a.off + 1, none⟩ ∧ cp = cP - 1)) := by
    have hd : (nats (k :: p)).drop (1 * 1) = nats p := rfl
    rw [hd] at hcut
    simp only [List.length_cons, Nat.add_sub_cancel] at hcut hPc
    by_cases hc1 : cP = 1
    · rw [if_pos hc1] at hcut
      exact ⟨_, 0, hcut, by omega, .inl ⟨hc1, by omega, rfl, rfl⟩⟩
    · rw [if_neg hc1] at hcut
      exact ⟨_, cP - 1, by simpa [add_pos a 1 (by omega)] using hcut, by omega, .inr ⟨hc1, rfl, rfl⟩⟩
  have B2d : Below w.heap.size w W2.drew := Below.drew B2
  have hs2 : w.heap.size ≤ W2.heap.size := B2.size
  have hcall := ih W2.drew S A3 Ap c3 cp x.kids lab (fun b hb => Nat.lt_of_lt_of_le (hS b hb) hs2) (hk3.keep fun p hp => B2d.cell (hS _ hp)) hcap3 (Rd.more (Rd.below hAp B2d) hs2) hcp' (by simp only [List.length_cons] at hPl; omega) hwx hpx
  rw [hrl] at hcall
  have HC := Lib.hid hcall
  have HO5 := Lib.hid ho5
  have HCS := Lib.hid hcs
  have HS := Lib.hid hS
  have hiI : (k : Int) < (l.length : Int) := by omega
  have hi0 : (0 : Int) ≤ (k : Int) := by omega
  have hpI : ¬ ((p.length : Int) + 1 < 1) := by omega
  simp only [List.length_cons] at hPc hPl ⊢
  have hRl : R < W2.heap.size := hR2
  have HB2 := Lib.hid B2
  have HX := Lib.hid hx
  have HKF : Hid (∀ W3, Below W2.drew.heap.size W2.drew W3 → W3.frozen? ⟨R, k * 2 + 1, none⟩ = false) := Lib.hid (fun W3 h => (h.frozen (p := ⟨R, k * 2 + 1, none⟩) hR2).trans hkf)
  have HKC : Hid (∀ W3, Below W2.drew.heap.size W2.drew W3 → W3.cell? ⟨R, k * 2 + 1, none⟩ = some (.slice A3 x.kids.length c3)) := Lib.hid (fun W3 h => (h.cell (p := ⟨R, k * 2 + 1, none⟩) hR2).trans hkc)
  clear hcall ho5 hcs hcut hAp hgo hca0 hu hab hat5 hnb h0 b0 hrd0 hxo b5 hP hk3 ih B2d hR2 hrd s0 hx hpx kx0 kx1 hkx hv1 hv2 hS hSx hAx hkcp hxk hrl hres
  have HRW := Lib.hid hRw
  have HEND : Hid (∀ (W3 : World) (A6 : Option Addr) (c6 : Nat), Below W2.drew.heap.size W2.drew W3 → Cap rl.length c6 → SlP W3 (fun b => S b ∨ (W2.drew.heap.size ≤ b ∧ b < W3.heap.size)) 2 A6 rl.length (trsC rl) →
      PutRet w S (l.set k (.mk x.lab rl)) (.returned (.slice (some ⟨R, 0, none⟩) l.length c5)) (W3.setCell ⟨R, k * 2 + 1, none⟩ (.slice A6 rl.length c6))) := Lib.hid (fun W3 A6 c6 h hcc hsl => by
    have hs3 : W2.heap.size ≤ W3.heap.size := h.size
    have hb3 : Below w.heap.size w W3 := HB2.out.trans (((Below.refl W2.heap.size W2).drew.trans h).mono HB2.out.size)
    have hll : (l.set k (Tr.mk x.lab rl)).length = l.length := List.length_set
    have hB23 : Below W2.heap.size W2 W3 := (Below.drew (Below.refl _ W2)).trans h
    have h7 := setKids_trs HS.out (Nat.le_of_lt HRW.out) HCS.out HX.out hb3 (hsl.more (S' := fun b => b ≠ R ∧ (S b ∨ (w.heap.size ≤ b ∧ b < W3.heap.size))) fun b hb => by
      rcases hb with hb | hb
      · have := HS.out b hb
        exact ⟨by have := HRW.out; omega, .inl hb⟩
      · have h9 : W2.heap.size ≤ b := hb.1
        exact ⟨by omega, .inr ⟨by omega, hb.2⟩⟩) hcc
    exact ⟨some ⟨R, 0, none⟩, c5, _, by rw [hll], by rw [hll]; exact own_setz (own_below HO5.out hB23 (Nat.le_refl _)) _, by rw [hll]; exact h7, hb3.setCell (p := ⟨R, k * 2 + 1, none⟩) (Nat.le_of_lt HRW.out) _⟩)
  rcases hif with ⟨hc1, hp0, rfl, rfl⟩ | ⟨hc1, rfl, rfl⟩
  · subst hc1
    obtain rfl : p = [] := List.length_eq_zero_iff.mp hp0
    have hc' := HC.out
    simp only [List.length_nil] at hc'
    have HC' := Lib.hid hc'
    clear hc'
    simp only [List.length_nil, Nat.zero_add] at hpI hPc ⊢
    clear hp0 HC
    go_wp2
    go_region_with (go_at_call 33; refine HC'.out.mono ?_; rintro e W3 ⟨A6, c6, xs6, rfl, ho6, hcs6, b6⟩; have h6 := own_cap ho6; have hn6 := PutRet.sl ho6 hcs6; have kf := HKF.out W3 b6; have kc := HKC.out W3 b6)
    all_goals
      have HRET := Lib.hid (HEND.out W3 A6 c6 b6 h6 hn6)
      clear hn6 b6 ho6 hcs6
      go_wp2
      go_ret
      exact HRET.out
  · go_wp2
    go_region_with (go_at_call 33; refine HC.out.mono ?_; rintro e W3 ⟨A6, c6, xs6, rfl, ho6, hcs6, b6⟩; have h6 := own_cap ho6; have hn6 := PutRet.sl ho6 hcs6; have kf := HKF.out W3 b6; have kc := HKC.out W3 b6)
    all_goals
      have HRET := Lib.hid (HEND.out W3 A6 c6 b6 h6 hn6)
      clear hn6 b6 ho6 hcs6
      go_wp2
      go_ret
      exact HRET.out
theorem tput_any : ∀ p : List Nat, TPutOk p
  | [] => tput_nil
  | k :: p => tput_cons k p (tput_any p)
end Go.Proofs.Ytbipdnnalhdoaaa
