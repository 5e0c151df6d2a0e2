/- strainerref07: put. -/
import Derived.Test.YtlfkipilgdeemaaKv
namespace Go.Proofs.Ytlfkipilgdeemaa
open Go.RowKit Go.Maps Go.WideMaps
attribute [local go_sem ↓] Go.wp_at_zero Go.wp_at_succ

theorem chunk_eq {cs a : List Value} {o : Nat} (h5 : a.length = 5) (h : ∀ j, j < 5 → cs[o + j]? = a[j]?) : (cs.drop o).take 5 = a := by
  apply List.ext_getElem?
  intro j
  rw [List.getElem?_take]
  by_cases hj : j < 5
  · rw [if_pos hj, List.getElem?_drop, h j hj]
  · rw [if_neg hj, List.getElem?_eq_none (by omega)]
/-- another node at k -/
theorem NsIsP.setAt {w : World} {S : Nat → Prop} {l : List Nd} {xs xs' a' : List Value} {n' : Nd} {k : Nat} (h : NsIsP w S l xs) (hk : k < l.length) (hn : NIsP w S n' a') (hl : xs'.length = xs.length)
    (h1 : ∀ j, j < 5 → xs'[k * 5 + j]? = a'[j]?) (h2 : ∀ o, o < k * 5 ∨ k * 5 + 5 ≤ o → xs'[o]? = xs[o]?) : NsIsP w S (l.set k n') xs' := by
  refine NsIsP.build (by rw [hl, h.len, List.length_set]) fun i hi => ?_
  rw [List.length_set] at hi
  by_cases hik : i = k
  · subst hik
    rw [chunk_eq hn.five h1]
    simpa using hn
  · obtain ⟨a, h3, h4⟩ := NsIsP.at_ h hi
    rw [chunk_eq h3.five (fun j hj => (h2 _ (by omega)).trans (h4 j hj)), List.getElem_set, if_neg (fun e => hik e.symm)]
    exact h3

mutual
/-- all texts are of B bytes at most -/
def txB1 (B : Nat) : Nd → Prop
  | .mk _ _ _ tx kids => tx.length ≤ B ∧ txBL B kids
def txBL (B : Nat) : List Nd → Prop
  | [] => True
  | n :: l => txB1 B n ∧ txBL B l
end
theorem txBL_at {B : Nat} : ∀ {l : List Nd}, txBL B l → ∀ (k : Nat) (hk : k < l.length), txB1 B l[k]
  | n :: l, h, 0, _ => by simp only [txBL] at h; exact h.1
  | n :: l, h, k + 1, hk => by simp only [txBL] at h; exact txBL_at h.2 k (by simpa using hk)

/-- blocks that stood below B, and new ones -/
abbrev OldNew (B : Nat) (w w' : World) : Nat → Prop := fun b => b < B ∨ (w.heap.size ≤ b ∧ b < w'.heap.size)
/-- what put does -/
def RPutOk (P : List Nat) : Prop := ∀ (w : World) (B : Nat) (A AP An : Option Addr) (c cP cn : Nat) (l : List Nd) (kd : Int) (nm tx : List UInt8) (ats : List Atr), B ≤ w.heap.size → Nodes w B A l.length l → l.length ≤ c → Rd w B 1 AP P.length (intsOf P) → P.length ≤ cP → P.length ≤ 1000 → PathOk l P →
    wtL l ≤ 1000000 → txBL 1000000 l → tx.length ≤ 1000000 → Atrs w B An ats.length ats → ats.length ≤ cn →
    Calls Try.prog 28 #[.slice A l.length c, .slice AP P.length cP, .agg #[.int .i64 kd, .string ⟨nm.toArray⟩, .slice An ats.length cn, .string ⟨tx.toArray⟩, .slice none 0 0]] w fun e w' =>
      ∃ A' c', e = .returned (.slice A' (rPut l P (.mk kd nm ats tx [])).length c') ∧ (rPut l P (.mk kd nm ats tx [])).length ≤ c' ∧ NodesP w' (OldNew B w w') A' (rPut l P (.mk kd nm ats tx [])).length (rPut l P (.mk kd nm ats tx [])) ∧ Below w.heap.size w w'

theorem NIsP.of {w : World} {S : Nat → Prop} {k : Int} {nm : List UInt8} {ats : List Atr} {tx : List UInt8} {kids : List Nd} {A A' : Option Addr} {c c' : Nat} (h1 : ats.length ≤ c) (h2 : RdP w S 2 A ats.length (atrCells ats)) (h3 : kids.length ≤ c') (h4 : NodesP w S A' kids.length kids) :
    NIsP w S (.mk k nm ats tx kids) [.int .i64 k, sv nm, .slice A ats.length c, sv tx, .slice A' kids.length c'] := NIsP.mk' h1 h2 h3 h4
theorem add_zero' (R j : Nat) : (⟨R, 0, none⟩ : Addr).add j = ⟨R, j, none⟩ := by
  unfold Addr.add
  split
  · rename_i h; subst h; rfl
  · simp
/-- a row of nodes, where a node's kids are stored -/
theorem setKid_nodes {w W2 W3 W4 : World} {B R i n2 c2 c6 : Nat} {A2 A6 : Option Addr} {l : List Nd} {xs : List Value} {kd : Int} {nm tx : List UInt8} {ats : List Atr} {rl : List Nd} {u : Value} (hB : B ≤ w.heap.size) (hs2 : w.heap.size ≤ W2.heap.size) (hR1 : w.heap.size ≤ R) (hR2 : R < W2.heap.size)
    (hns : NsIsP w (fun b => b < B) l xs) (hil : i < l.length) (hb3 : Below w.heap.size w W3) (hs3 : W2.heap.size ≤ W3.heap.size) (hrow : ∀ j, j < l.length * 5 → W3.cell? ⟨R, j, none⟩ = xs[j]?) (hch : ∀ j, j < 5 → xs[i * 5 + j]? = [Value.int .i64 kd, sv nm, .slice A2 n2 c2, sv tx, u][j]?)
    (q1 : n2 ≤ c2) (q2 : RdP w (fun b => b < B) 2 A2 n2 (atrCells ats)) (hn6 : NodesP W3 (OldNew B W2 W3) A6 rl.length rl) (h6 : rl.length ≤ c6) (hW : W4 = W3.setCell ⟨R, i * 5 + 4, none⟩ (.slice A6 rl.length c6)) :
    NodesP W4 (OldNew B w W4) (some ⟨R, 0, none⟩) l.length (l.set i (.mk kd nm ats tx rl)) := by
  have hs4 : W4.heap.size = W3.heap.size := by rw [hW]; exact size_set
  have hoc : ∀ p : Addr, p.block ≠ R → W4.cell? p = W3.cell? p := fun p hp => by rw [hW]; exact World.cell?_of_block (heap_setCell_other hp)
  have hoc2 : ∀ p : Addr, p.block < B → W4.cell? p = w.cell? p := fun p hp => (hoc p (by omega)).trans (hb3.cell (p := p) (by omega))
  have hN4 : NsIsP W4 (OldNew B w W4) l xs := (hns.keep hoc2).more fun b hb => .inl hb
  have hk : NodesP W4 (OldNew B w W4) A6 rl.length rl := by
    refine (hn6.keep fun p hp => hoc p ?_).more fun b hb => ?_
    · rcases hp with hp | hp <;> omega
    · rcases hb with hb | hb
      · exact .inl hb
      · exact .inr ⟨by omega, by omega⟩
  have hxl := hns.len
  have hc0 : (W3.cell? ⟨R, i * 5 + 4, none⟩).isSome = true := by
    rw [hrow _ (by omega), hch 4 (by omega)]; rfl
  have hset := NsIsP.setAt (xs' := xs.set (i * 5 + 4) (.slice A6 rl.length c6)) (k := i) hN4 hil (NIsP.mk' (k := kd) (nm := nm) (tx := tx) q1 ((q2.keep hoc2).more fun b hb => .inl hb) h6 hk) (by simp) (by
    intro j hj
    by_cases h4 : j = 4
    · subst h4
      rw [List.getElem?_set_self (by omega)]
      rfl
    · rw [List.getElem?_set_ne (by omega), hch j hj]
      match j, hj, h4 with
      | 0, _, _ => rfl
      | 1, _, _ => rfl
      | 2, _, _ => rfl
      | 3, _, _ => rfl
      | 4, _, h => exact absurd rfl h) (by
    intro o ho
    rw [List.getElem?_set_ne (by omega)])
  refine ⟨_, ⟨by simp [hxl], fun _ => ⟨_, rfl, .inr ⟨hR1, by rw [hs4]; exact Nat.lt_of_lt_of_le hR2 hs3⟩, fun j v hj => ?_⟩⟩, hset⟩
  have hjl : j < l.length * 5 := by
    have := (List.getElem?_eq_some_iff.mp hj).1
    simp only [List.length_set, hxl] at this
    exact this
  rw [show (⟨R, 0, none⟩ : Addr).add j = ⟨R, j, none⟩ from add_zero' R j]
  by_cases hj4 : j = i * 5 + 4
  · subst hj4
    rw [List.getElem?_set_self (by omega)] at hj
    injection hj with hj
    rw [hW, World.cell?_setCell_same' _ _ _ hc0, hj]
  · rw [List.getElem?_set_ne (by omega)] at hj
    rw [hW, World.cell?_setCell_other W3 ⟨R, i * 5 + 4, none⟩ ⟨R, j, none⟩ _ (fun e => by injection e with _ e _; exact hj4 e.symm), hrow j hjl, hj]

theorem wtLen (l : List Nd) : l.length ≤ wtL l := by
  induction l with
  | nil => simp
  | cons n l ih => have := wt1_eq n; rw [List.length_cons, wtL]; omega

/-- a row of nodes, where a node's text is stored -/
theorem setText_nodes {w W3 W4 : World} {B R i n2 c2 n3 c3 : Nat} {A2 A3 : Option Addr} {l : List Nd} {xs ys : List Value} {kd : Int} {nm tx tx2 : List UInt8} {ats : List Atr} {kids : List Nd} (hB : B ≤ w.heap.size) (hR1 : w.heap.size ≤ R) (hR2 : R < W3.heap.size)
    (hns : NsIsP w (fun b => b < B) l xs) (hil : i < l.length) (hb3 : Below w.heap.size w W3) (hrow : ∀ j, j < l.length * 5 → W3.cell? ⟨R, j, none⟩ = xs[j]?) (hch : ∀ j, j < 5 → xs[i * 5 + j]? = [Value.int .i64 kd, sv nm, .slice A2 n2 c2, sv tx, .slice A3 n3 c3][j]?)
    (q1 : n2 ≤ c2) (q2 : RdP w (fun b => b < B) 2 A2 n2 (atrCells ats)) (q3 : n3 ≤ c3) (q4 : RdP w (fun b => b < B) 5 A3 n3 ys) (q5 : NsIsP w (fun b => b < B) kids ys) (hW : W4 = (W3.setCell ⟨R, i * 5 + 3, none⟩ (sv tx2)).drew) :
    NodesP W4 (OldNew B w W4) (some ⟨R, 0, none⟩) l.length (l.set i (.mk kd nm ats tx2 kids)) := by
  have hs4 : W4.heap.size = W3.heap.size := by rw [hW]; exact size_set
  have hoc : ∀ p : Addr, p.block ≠ R → W4.cell? p = W3.cell? p := fun p hp => by rw [hW]; exact World.cell?_of_block (heap_setCell_other hp)
  have hoc2 : ∀ p : Addr, p.block < B → W4.cell? p = w.cell? p := fun p hp => (hoc p (by omega)).trans (hb3.cell (p := p) (by omega))
  have hN4 : NsIsP W4 (OldNew B w W4) l xs := (hns.keep hoc2).more fun b hb => .inl hb
  have hxl := hns.len
  have hc0 : (W3.cell? ⟨R, i * 5 + 3, none⟩).isSome = true := by
    rw [hrow _ (by omega), hch 3 (by omega)]; rfl
  have hset := NsIsP.setAt (xs' := xs.set (i * 5 + 3) (sv tx2)) (k := i) hN4 hil (NIsP.mk' (k := kd) (nm := nm) (tx := tx2) q1 ((q2.keep hoc2).more fun b hb => .inl hb) q3 ⟨ys, (q4.keep hoc2).more fun b hb => .inl hb, (q5.keep hoc2).more fun b hb => .inl hb⟩) (by simp) (by
    intro j hj
    by_cases h4 : j = 3
    · subst h4
      rw [List.getElem?_set_self (by omega)]
      rfl
    · rw [List.getElem?_set_ne (by omega), hch j hj]
      match j, hj, h4 with
      | 0, _, _ => rfl
      | 1, _, _ => rfl
      | 2, _, _ => rfl
      | 4, _, _ => rfl
      | 3, _, h => exact absurd rfl h) (by
    intro o ho
    rw [List.getElem?_set_ne (by omega)])
  refine ⟨_, ⟨by simp [hxl], fun _ => ⟨_, rfl, .inr ⟨hR1, by rw [hs4]; exact hR2⟩, fun j v hj => ?_⟩⟩, hset⟩
  have hjl : j < l.length * 5 := by
    have := (List.getElem?_eq_some_iff.mp hj).1
    simp only [List.length_set, hxl] at this
    exact this
  rw [show (⟨R, 0, none⟩ : Addr).add j = ⟨R, j, none⟩ from add_zero' R j]
  have hdr : W4.cell? ⟨R, j, none⟩ = (W3.setCell ⟨R, i * 5 + 3, none⟩ (sv tx2)).cell? ⟨R, j, none⟩ := by rw [hW]; rfl
  rw [hdr]
  by_cases hj4 : j = i * 5 + 3
  · subst hj4
    rw [List.getElem?_set_self (by omega)] at hj
    injection hj with hj
    rw [World.cell?_setCell_same' _ _ _ hc0, hj]
  · rw [List.getElem?_set_ne (by omega)] at hj
    rw [World.cell?_setCell_other W3 ⟨R, i * 5 + 3, none⟩ ⟨R, j, none⟩ _ (fun e => by injection e with _ e _; exact hj4 e.symm), hrow j hjl, hj]

/-- a copied row -/
theorem copy_nodes {w W2 : World} {B n c : Nat} {A : Option Addr} {e : TypeId} {l : List Nd} {xs : List Value} (hB : B ≤ w.heap.size) (hb : Below w.heap.size w W2) (ho : W2.ownsRow w.heap.size e 5 (.slice A n c) n xs) (hns : NsIsP w (fun b => b < B) l xs) : NodesP W2 (OldNew B w W2) A n l :=
  ⟨xs, (RdP.of_own ho).more fun _ h => .inr h, (hns.keep fun p hp => hb.cell (p := p) (Nat.lt_of_lt_of_le hp hB)).more fun _ h => .inl h⟩
theorem rEnd_nil_empty (nm : List UInt8) (ats : List Atr) : rPut [] [] (.mk 2 nm ats [] []) = [] := rfl

set_option maxHeartbeats 800000 in
set_option maxRecDepth 100000 in
theorem rput_cons (i : Nat) (p : List Nat) (ih : RPutOk p) : RPutOk (i :: p) := by
  intro w B A AP An c cP cn l kd nm tx ats hBw hN hc hP hPc hPl hpo hwt htb htx hat hcn
  obtain ⟨hil, hpo2⟩ := hpo
  have hgd : l.getD i dNd = l[i] := by simp [List.getD, List.getElem?_eq_getElem hil]
  rw [hgd] at hpo2
  have hlen := wtLen l
  have hres : rPut l (i :: p) (.mk kd nm ats tx []) = l.set i (setKids l[i] (rPut l[i].kids p (.mk kd nm ats tx []))) := by rw [rPut, hgd]
  rw [hres]
  obtain ⟨kd1, nm1, ats1, tx1, kids1, hnd⟩ : ∃ kd1 nm1 ats1 tx1 kids1, l[i] = Nd.mk kd1 nm1 ats1 tx1 kids1 := by
    cases l[i]
    exact ⟨_, _, _, _, _, rfl⟩
  rw [hnd]
  simp only [setKids, Nd.kids, Nd.kind, Nd.name, Nd.attrs, Nd.text]
  generalize hrl : rPut kids1 p (.mk kd nm ats tx []) = rl
  have hwk := wtL_at hil
  have htk := txBL_at htb i hil
  obtain ⟨xs, hrd, hns⟩ := hN
  have h0 := heap_alloc_new w (.cells #[.int .i64 kd, .string ⟨nm.toArray⟩, .slice An ats.length cn, .string ⟨tx.toArray⟩, .slice none 0 0] 33)
  have b0 : Below w.heap.size w (w.alloc (.cells #[.int .i64 kd, .string ⟨nm.toArray⟩, .slice An ats.length cn, .string ⟨tx.toArray⟩, .slice none 0 0] 33)) := (Below.refl _ w).alloc (Nat.le_refl _) _
  have s0 : (w.alloc (.cells #[.int .i64 kd, .string ⟨nm.toArray⟩, .slice An ats.length cn, .string ⟨tx.toArray⟩, .slice none 0 0] 33)).heap.size = w.heap.size + 1 := World.size_alloc _ _
  have hrd0 : Rd (w.alloc (.cells #[.int .i64 kd, .string ⟨nm.toArray⟩, .slice An ats.length cn, .string ⟨tx.toArray⟩, .slice none 0 0] 33)) w.heap.size 5 A l.length xs := Rd.more (Rd.below (B := B) hrd (b0.mono hBw)) hBw
  have hxo := hns.one
  go_enter Try.func28, Try.ntmps28
  go_upto_region 3 with (at_builtin; go_must (refine wpList_copy rfl _ _ _ rfl w.heap.size rowNd rfl w.heap.size A l.length c xs rfl hrd0 hxo (by unfold maxLen; omega) (by omega) b0.size ?_))
  intro A5 c5 W2 hc5 ho5 b5 hat5
  have hn5 : 0 < l.length := by omega
  obtain ⟨R, cap5, hv, hR1, hR2⟩ := ho5.form hn5
  injection hv with hv1 _ _
  subst hv1
  have hRw : w.heap.size < R := by have := hat5 R rfl; omega
  have B2 : Below w.heap.size w W2 := b0.trans (b5.mono (by omega))
  have hnb := (b5.block w.heap.size (by omega)).trans h0
  obtain ⟨a, u, rfl, hab, hu, hca0⟩ := hP.at_ (k := 0) (by simp)
  have hu' : u = .int .i64 (i : Int) := by
    have := hu
    simp [intsOf] at this
    exact this.symm
  subst hu'
  have hca : W2.cell? a = some (.int .i64 (i : Int)) := (B2.cell (p := a) (Nat.lt_of_lt_of_le hab hBw)).trans (by rw [add0] at hca0; exact hca0)
  obtain ⟨ach, hch, hch2⟩ := NsIsP.at_ hns hil
  have hgo : ∀ j, j < l.length * 5 → W2.cell? ⟨R, j, none⟩ = xs[j]? := fun j hj => ho5.cellAt j hj
  rw [hnd] at hch hpo2 hwk htk
  simp only [NIsP] at hch
  obtain ⟨A2, n2, c2, A3, n3, c3, ys, rfl, q1, q2, q3, q4, q5⟩ := hch
  simp only [Nd.kids] at hpo2 hwk
  simp only [txB1] at htk
  have hk3 : Nodes w B A3 n3 kids1 := ⟨ys, q4, q5⟩
  have hl3 := hk3.len
  subst hl3
  have hkc : W2.cell? ⟨R, i * 5 + 4, none⟩ = some (.slice A3 kids1.length c3) := by rw [hgo _ (by omega), hch2 4 (by omega)]; rfl
  have hkf : W2.frozen? ⟨R, i * 5 + 4, none⟩ = false := ho5.frozenAt _
  have hcut := Rd.cut (k := 1) (cap := cP) hP (by simp) hPc
  have x0 := Lib.cell_of_heap hnb 0
  have x1 := Lib.cell_of_heap hnb 1
  have x2 := Lib.cell_of_heap hnb 2
  have x3 := Lib.cell_of_heap hnb 3
  have x4 := Lib.cell_of_heap hnb 4
  simp only [List.getElem?_toArray, List.getElem?_cons_zero, List.getElem?_cons_succ] at x0 x1 x2 x3 x4
  obtain ⟨Ap, cp, hAp, hcp, hif⟩ : ∃ Ap cp, Rd w B 1 Ap p.length (intsOf p) ∧ p.length ≤ cp ∧ ((cP = 1 ∧ p.length = 0 ∧ Ap = some a ∧ cp = 0) ∨ (¬ cP = 1 ∧ Ap = some ⟨a.block, a.off + 1, none⟩ ∧ cp = cP - 1)) := by
    have hd : (intsOf (i :: p)).drop (1 * 1) = intsOf p := rfl
    rw [hd] at hcut
    simp only [List.length_cons, Nat.add_sub_cancel] at hcut hPc
    by_cases hc1 : cP = 1
    · rw [if_pos hc1] at hcut
      exact ⟨_, 0, hcut, by omega, .inl ⟨hc1, by omega, rfl, rfl⟩⟩
    · rw [if_neg hc1] at hcut
      exact ⟨_, cP - 1, by simpa [add_pos a 1 (by omega)] using hcut, by omega, .inr ⟨hc1, rfl, rfl⟩⟩
  have B2d : Below B w W2.drew := Below.drew (B2.mono hBw)
  have hcall := ih W2.drew B A3 Ap An c3 cp cn kids1 kd nm tx ats (Nat.le_trans hBw B2.size) (hk3.below B2d) q3 (hAp.below B2d) hcp (by simp only [List.length_cons] at hPl; omega) hpo2 (by omega) htk.2 htx (Rd.below (B := B) hat B2d) hcn
  rw [hrl] at hcall
  have HC := Lib.hid hcall
  have HO5 := Lib.hid ho5
  have HNS := Lib.hid hns
  have HCH := Lib.hid hch2
  have HQ := Lib.hid (And.intro q1 q2)
  have hiI : (i : Int) < (l.length : Int) := by omega
  have hi0 : (0 : Int) ≤ (i : Int) := by omega
  have hpI : ¬ ((p.length : Int) + 1 < 1) := by omega
  simp only [List.length_cons] at hPc hPl ⊢
  have hRl : R < W2.heap.size := hR2
  have HB2 := Lib.hid B2
  have HKF : Hid (∀ W3, Below W2.drew.heap.size W2.drew W3 → W3.frozen? ⟨R, i * 5 + 4, none⟩ = false) := Lib.hid (fun W3 h => (h.frozen (p := ⟨R, i * 5 + 4, none⟩) hR2).trans hkf)
  have HKC : Hid (∀ W3, Below W2.drew.heap.size W2.drew W3 → W3.cell? ⟨R, i * 5 + 4, none⟩ = some (.slice A3 kids1.length c3)) := Lib.hid (fun W3 h => (h.cell (p := ⟨R, i * 5 + 4, none⟩) hR2).trans hkc)
  clear hcall ho5 hns hch2 hcut hAp q1 q2 q4 q5 hgo hca0 hu hab hat5 hnb h0 b0 hrd0 hxo b5 hP hk3 ih B2d hR2 hrd s0
  have HRW := Lib.hid hRw
  rcases hif with ⟨hc1, hp0, rfl, rfl⟩ | ⟨hc1, rfl, rfl⟩
  · subst hc1
    obtain rfl : p = [] := List.length_eq_zero_iff.mp hp0
    have hc' := HC.out
    simp only [List.length_nil] at hc'
    have HC' := Lib.hid hc'
    clear hc'
    simp only [List.length_nil, Nat.zero_add] at hpI hPc ⊢
    clear hp0 HC
    go_wp2
    go_region_with (go_at_call 28; refine HC'.out.mono ?_; rintro e W3 ⟨A6, c6, rfl, h6, hn6, b6⟩; have kf := HKF.out W3 b6; have kc := HKC.out W3 b6)
    all_goals
      have hs23 : W2.heap.size ≤ W3.heap.size := b6.size
      have hb3 : Below w.heap.size w W3 := HB2.out.trans (((Below.refl W2.heap.size W2).drew.trans b6).mono HB2.out.size)
      have hNN := setKid_nodes (W4 := W3.setCell ⟨R, i * 5 + 4, none⟩ (.slice A6 rl.length c6)) hBw HB2.out.size (Nat.le_of_lt hRw) hRl HNS.out hil hb3 hs23 (fun j hj => (b6.cell (p := ⟨R, j, none⟩) hRl).trans (HO5.out.cellAt j hj)) HCH.out HQ.out.1 HQ.out.2 hn6 h6 rfl
      have hBB : Below w.heap.size w (W3.setCell ⟨R, i * 5 + 4, none⟩ (.slice A6 rl.length c6)) := hb3.setCell (p := ⟨R, i * 5 + 4, none⟩) (Nat.le_of_lt hRw) _
      have HNN := Lib.hid hNN
      have HBB := Lib.hid hBB
      clear hNN hBB hn6 b6 hb3
      go_wp2
      go_ret
      have hll : (l.set i (Nd.mk kd1 nm1 ats1 tx1 rl)).length = l.length := List.length_set
      rw [hll]
      exact ⟨_, cap5, rfl, by first | assumption | omega, HNN.out, HBB.out⟩
  · go_wp2
    go_region_with (go_at_call 28; refine HC.out.mono ?_; rintro e W3 ⟨A6, c6, rfl, h6, hn6, b6⟩; have kf := HKF.out W3 b6; have kc := HKC.out W3 b6)
    all_goals
      have hs23 : W2.heap.size ≤ W3.heap.size := b6.size
      have hb3 : Below w.heap.size w W3 := HB2.out.trans (((Below.refl W2.heap.size W2).drew.trans b6).mono HB2.out.size)
      have hNN := setKid_nodes (W4 := W3.setCell ⟨R, i * 5 + 4, none⟩ (.slice A6 rl.length c6)) hBw HB2.out.size (Nat.le_of_lt hRw) hRl HNS.out hil hb3 hs23 (fun j hj => (b6.cell (p := ⟨R, j, none⟩) hRl).trans (HO5.out.cellAt j hj)) HCH.out HQ.out.1 HQ.out.2 hn6 h6 rfl
      have hBB : Below w.heap.size w (W3.setCell ⟨R, i * 5 + 4, none⟩ (.slice A6 rl.length c6)) := hb3.setCell (p := ⟨R, i * 5 + 4, none⟩) (Nat.le_of_lt hRw) _
      have HNN := Lib.hid hNN
      have HBB := Lib.hid hBB
      clear hNN hBB hn6 b6 hb3
      go_wp2
      go_ret
      have hll : (l.set i (Nd.mk kd1 nm1 ats1 tx1 rl)).length = l.length := List.length_set
      rw [hll]
      exact ⟨_, cap5, rfl, by first | assumption | omega, HNN.out, HBB.out⟩
set_option maxHeartbeats 800000 in
set_option maxRecDepth 100000 in
theorem rput_nil : RPutOk [] := by
  intro w B A AP An c cP cn l kd nm tx ats hBw hN hc hP hPc hPl hpo hwt htb htx hat hcn
  have hlen := wtLen l
  obtain ⟨xs, hrd, hns⟩ := hN
  have h0 := heap_alloc_new w (.cells #[.int .i64 kd, .string ⟨nm.toArray⟩, .slice An ats.length cn, .string ⟨tx.toArray⟩, .slice none 0 0] 33)
  have b0 : Below w.heap.size w (w.alloc (.cells #[.int .i64 kd, .string ⟨nm.toArray⟩, .slice An ats.length cn, .string ⟨tx.toArray⟩, .slice none 0 0] 33)) := (Below.refl _ w).alloc (Nat.le_refl _) _
  have s0 : (w.alloc (.cells #[.int .i64 kd, .string ⟨nm.toArray⟩, .slice An ats.length cn, .string ⟨tx.toArray⟩, .slice none 0 0] 33)).heap.size = w.heap.size + 1 := World.size_alloc _ _
  have hrd0 : Rd (w.alloc (.cells #[.int .i64 kd, .string ⟨nm.toArray⟩, .slice An ats.length cn, .string ⟨tx.toArray⟩, .slice none 0 0] 33)) w.heap.size 5 A l.length xs := Rd.more (Rd.below (B := B) hrd (b0.mono hBw)) hBw
  have hxo := hns.one
  go_enter Try.func28, Try.ntmps28
  go_upto_region 3 with (at_builtin; go_must (refine wpList_copy rfl _ _ _ rfl w.heap.size rowNd rfl w.heap.size A l.length c xs rfl hrd0 hxo (by unfold maxLen; omega) (by omega) b0.size ?_))
  intro A5 c5 W2 hc5 ho5 b5 hat5
  have B2 : Below w.heap.size w W2 := b0.trans (b5.mono (by omega))
  have hnb := (b5.block w.heap.size (by omega)).trans h0
  have x0 := Lib.cell_of_heap hnb 0
  have x1 := Lib.cell_of_heap hnb 1
  have x2 := Lib.cell_of_heap hnb 2
  have x3 := Lib.cell_of_heap hnb 3
  have x4 := Lib.cell_of_heap hnb 4
  simp only [List.getElem?_toArray, List.getElem?_cons_zero, List.getElem?_cons_succ] at x0 x1 x2 x3 x4
  have HO5 := Lib.hid ho5
  have HB2 := Lib.hid B2
  have HNS := Lib.hid hns
  have hA5 := Lib.hid hat5
  simp only [List.length_nil] at hP hPc ⊢
  clear ho5 hns hat5 hnb h0 b0 hrd0 hxo b5 hrd
  by_cases hk : kd = 2
  · subst hk
    rcases List.eq_nil_or_concat l with rfl | ⟨D, m, rfl⟩
    · by_cases hx : tx = []
      · subst hx
        have hr : rPut [] [] (.mk 2 nm ats [] []) = [] := rfl
        simp only [hr, List.length_nil] at HO5 ⊢
        have hN := Lib.hid (copy_nodes hBw HB2.out HO5.out HNS.out)
        go_wp2
        go_ret
        exact ⟨A5, c5, rfl, Nat.zero_le _, hN.out, HB2.out⟩
      · have hr : rPut [] [] (.mk 2 nm ats tx []) = [.mk 2 nm ats tx []] := by simp [rPut, rEnd, Nd.kind, Nd.text, hx]
        have hrl : (rPut [] [] (.mk 2 nm ats tx [])).length = 1 := by rw [hr]; rfl
        have hxe : ¬ (tx.isEmpty = true) := by simpa using hx
        have hns2 := Lib.hid (HNS.out.append (NsIsP.single (NIsP.mk' (k := 2) (nm := nm) (tx := tx) (c' := 0) hcn hat (Nat.le_refl _) (NodesP.nil w (fun b => b < B) none))))
        have hsz := HB2.out.size
        go_wp2_with (at_builtin; go_must (refine wpList_push rfl _ _ _ rfl w.heap.size rowNd A5 0 c5 xs rfl HO5.out _ _ rfl rfl (by simp [Value.oneCell']) (by unfold maxLen; omega) (by omega) hsz ?_))
        all_goals first
          | (exact absurd (by assumption) hxe)
          | skip
        all_goals
          intro A6 c6 W6 hc6 ho6 hg6
          have hb6 : Below w.heap.size w W6 := HB2.out.trans ((Below.refl _ W2).grown hg6 hsz (own_ge HO5.out))
          have hN := Lib.hid (copy_nodes hBw hb6 ho6 hns2.out)
          have HB6 := Lib.hid hb6
          clear ho6 hg6 hb6
          go_wp2
          go_ret
          rw [hrl, hr]
          exact ⟨A6, c6, rfl, hc6, hN.out, HB6.out⟩
    · obtain ⟨ach, hch, hch2⟩ := NsIsP.at_ HNS.out (k := D.length) (by simp)
      have hmm : (D.concat m)[D.length]'(by simp) = m := by simp
      rw [hmm] at hch
      have hml : (D.concat m).length = D.length + 1 := by simp
      obtain ⟨km, nmm, atm, txm, kim⟩ := m
      simp only [NIsP] at hch
      obtain ⟨A2, n2, c2, A3, n3, c3, ys, rfl, q1, q2, q3, q4, q5⟩ := hch
      obtain ⟨R, cap5, hv, hR1, hR2⟩ := HO5.out.form (by omega)
      injection hv with hv1 _ hv3
      subst hv1 hv3
      have hgo : ∀ j, j < 5 → W2.cell? ⟨R, D.length * 5 + j, none⟩ = [Value.int .i64 km, sv nmm, .slice A2 n2 c2, sv txm, .slice A3 n3 c3][j]? := fun j hj => (HO5.out.cellAt _ (by omega)).trans (hch2 j hj)
      have g0 := hgo 0 (by omega)
      have g3 := hgo 3 (by omega)
      have hf3 := HO5.out.frozenAt (D.length * 5 + 3)
      simp only [List.getElem?_cons_zero, List.getElem?_cons_succ, Nat.add_zero] at g0 g3
      have HCH := Lib.hid hch2
      have HGO := Lib.hid hgo
      clear hch2 hgo
      have htm := txBL_at htb D.length (by simp)
      rw [hmm] at htm
      simp only [txB1] at htm
      rw [hml] at HO5 hc hc5 ⊢
      clear hmm
      by_cases hkm : km = 2
      · subst hkm
        have hlt : ¬ 9223372036854775807 < txm.length + tx.length := by omega
        unfold sv at g3
        go_wp2
        go_region_with fail
        all_goals
          have hj2 : (⟨txm.toArray⟩ : ByteArray) ++ ⟨tx.toArray⟩ = ⟨(txm ++ tx).toArray⟩ := by
            ext1
            simp [ByteArray.data_append]
          rw [hj2]
          have hNN := setText_nodes (tx2 := txm ++ tx) (W4 := (W2.setCell ⟨R, D.length * 5 + 3, none⟩ (sv (txm ++ tx))).drew) hBw hR1 hR2 HNS.out (i := D.length) (by simp) HB2.out (fun j hj => HO5.out.cellAt j (by simpa using hj)) HCH.out q1 q2 q3 q4 q5 rfl
          have hBB : Below w.heap.size w (W2.setCell ⟨R, D.length * 5 + 3, none⟩ (sv (txm ++ tx))).drew := Below.drew (HB2.out.setCell (p := ⟨R, D.length * 5 + 3, none⟩) hR1 _)
          have HNN := Lib.hid hNN
          have HBB := Lib.hid hBB
          clear hNN hBB
          have hr : rPut (D.concat (Nd.mk 2 nmm atm txm kim)) [] (.mk 2 nm ats tx []) = (D.concat (Nd.mk 2 nmm atm txm kim)).set D.length (.mk 2 nmm atm (txm ++ tx) kim) := by
            simp [rPut, rEnd, Nd.kind, Nd.text, Nd.name, Nd.attrs, Nd.kids]
          go_wp2
          go_ret
          rw [hr, List.length_set, hml]
          have hNF := HNN.out
          rw [hml] at hNF
          exact ⟨_, c5, rfl, by omega, hNF, HBB.out⟩
      · have hkm' : ¬ (km = 2) := hkm
        have g0' := g0
        by_cases hx : tx = []
        · subst hx
          have hr : rPut (D.concat (Nd.mk km nmm atm txm kim)) [] (.mk 2 nm ats [] []) = D.concat (Nd.mk km nmm atm txm kim) := by
            simp [rPut, rEnd, Nd.kind, Nd.text, hkm]
          have hN := Lib.hid (copy_nodes hBw HB2.out HO5.out HNS.out)
          go_wp2
          go_ret
          have hNF := hN.out
          rw [List.concat_eq_append] at hNF hr hml
          rw [hr, hml]
          exact ⟨_, c5, rfl, by omega, hNF, HB2.out⟩
        · have hxe : ¬ (tx.isEmpty = true) := by simpa using hx
          have hr : rPut (D.concat (Nd.mk km nmm atm txm kim)) [] (.mk 2 nm ats tx []) = D.concat (Nd.mk km nmm atm txm kim) ++ [.mk 2 nm ats tx []] := by
            simp [rPut, rEnd, Nd.kind, Nd.text, hkm, hx]
          have hrl : (rPut (D.concat (Nd.mk km nmm atm txm kim)) [] (.mk 2 nm ats tx [])).length = D.length + 1 + 1 := by rw [hr]; simp
          have hns2 := Lib.hid (HNS.out.append (NsIsP.single (NIsP.mk' (k := 2) (nm := nm) (tx := tx) (c' := 0) hcn hat (Nat.le_refl _) (NodesP.nil w (fun b => b < B) none))))
          have hsz := HB2.out.size
          go_wp2_with (at_builtin; go_must (refine wpList_push rfl _ _ _ rfl w.heap.size rowNd (some ⟨R, 0, none⟩) (D.length + 1) c5 xs rfl HO5.out _ _ rfl rfl (by simp [Value.oneCell']) (by unfold maxLen; omega) (by omega) hsz ?_))
          all_goals first
            | (exact absurd (by assumption) hxe)
            | skip
          all_goals
            intro A6 c6 W6 hc6 ho6 hg6
            have hb6 : Below w.heap.size w W6 := HB2.out.trans ((Below.refl _ W2).grown hg6 hsz (own_ge HO5.out))
            have hN := Lib.hid (copy_nodes hBw hb6 ho6 hns2.out)
            have HB6 := Lib.hid hb6
            clear ho6 hg6 hb6
            go_wp2
            go_ret
            rw [hrl, hr]
            exact ⟨A6, c6, rfl, hc6, hN.out, HB6.out⟩
  · have hr : rPut l [] (.mk kd nm ats tx []) = l ++ [.mk kd nm ats tx []] := rEnd_elem l _ hk
    have hrl : (rPut l [] (.mk kd nm ats tx [])).length = l.length + 1 := by rw [hr]; simp
    have hns2 := Lib.hid (HNS.out.append (NsIsP.single (NIsP.mk' (k := kd) (nm := nm) (tx := tx) (c' := 0) hcn hat (Nat.le_refl _) (NodesP.nil w (fun b => b < B) none))))
    have hsz := HB2.out.size
    go_wp2_with (at_builtin; go_must (refine wpList_push rfl _ _ _ rfl w.heap.size rowNd A5 l.length c5 xs rfl HO5.out _ _ rfl rfl (by simp [Value.oneCell']) (by unfold maxLen; omega) (by omega) hsz ?_))
    all_goals
      intro A6 c6 W6 hc6 ho6 hg6
      have hb6 : Below w.heap.size w W6 := HB2.out.trans ((Below.refl _ W2).grown hg6 hsz (own_ge HO5.out))
      have hN := Lib.hid (copy_nodes hBw hb6 ho6 hns2.out)
      have HB6 := Lib.hid hb6
      clear ho6 hg6 hb6
      go_wp2
      go_ret
      rw [hrl, hr]
      exact ⟨A6, c6, rfl, hc6, hN.out, HB6.out⟩
end Go.Proofs.Ytlfkipilgdeemaa
