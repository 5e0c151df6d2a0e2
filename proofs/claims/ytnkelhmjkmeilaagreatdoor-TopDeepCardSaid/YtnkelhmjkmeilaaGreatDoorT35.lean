/- The package build: begin. The package build: deeds, Put. -/
import Derived.Test.YtnkelhmjkmeilaaGreatDoorT34
section
namespace Go.Proofs.YtnkelhmjkmeilaaGreatDoor.K
open Go.RowKit Go.Maps Go.WideMaps
attribute [local go_sem ↓] Go.wp_at_zero Go.wp_at_succ
theorem run_copy {P : Program} {w : World} (ty t : TypeId) (base : Nat) {e : TypeId} {size bytes : Nat} (R : Row P t e size bytes)
    (B : Nat) (Y : Option Addr) (m c1 : Nat) (ys : List Value) (hr : Rd w B size Y m ys) (h1 : ∀ u ∈ ys, u.oneCell' = true)
    (h63 : m ≤ maxLen) (hbytes : m * bytes ≤ 140737488355328) (hbase : base ≤ w.heap.size) :
    ∃ A' c' w', (Builtin.append_ #[t, t] ty #[.slice none 0 0, .slice Y m c1]).run P w = .ok (.slice A' m c') w' ∧ m ≤ c' ∧ w'.ownsRow base e size (.slice A' m c') m ys ∧ Below w.heap.size w w' ∧ (∀ q, (Value.slice A' m c').ownBlock = some q → w.heap.size ≤ q) := by
  obtain ⟨i, z, hi, hz, hsize, hby, hzs⟩ := R.ex
  rcases Y with _ | y
  · have hys : ys = [] := by
      rcases ys with _ | ⟨u, ys⟩
      · rfl
      · obtain ⟨a, e, _⟩ := hr.2 (by simp); cases e
    subst hys
    have hm : m = 0 := by
      have h0 := hr.1
      have hp := R.pos
      rw [List.length_nil] at h0
      rcases Nat.eq_zero_or_pos m with h' | h'
      · exact h'
      · have := Nat.mul_pos h' hp; omega
    subst hm
    have hrun : (Builtin.append_ #[t, t] ty #[.slice none 0 0, .slice none 0 c1]).run P w = .ok (.slice none 0 0) w := by
      simp [Builtin.append_, run_underlying R.und, sizeOf, typeInfo, hi, Builtin.lenOf, Builtin.firstCells]
    exact ⟨none, 0, w, hrun, Nat.le_refl _, World.ownsRow_nil _ _ _ _, Below.refl _ _, fun q hq => by simp [Value.ownBlock] at hq⟩
  · have hcell : ∀ j u, ys[j]? = some u → w.cell? (y.add j) = some u := fun j u hu => by
      obtain ⟨y', e, _, hc⟩ := hr.2 (by intro e; rw [e] at hu; simp at hu)
      injection e with e
      subst e
      exact hc j u hu
    obtain ⟨v', w', hrun, h2, h3, h4, h5⟩ := run_append_own_at (P := P) w base t ty e i z size bytes R.und hi hz hsize hby hzs R.pos (.slice none 0 0) 0 [] (World.ownsRow_nil _ _ _ _) y m c1 ys hr.1 hcell h1 (by omega) (by rw [Nat.zero_add]; exact hbytes) hbase
    rw [Nat.zero_add, List.nil_append] at h2
    obtain ⟨A', c', rfl, hc'⟩ := own_shape h2
    refine ⟨A', c', w', hrun, hc', h2, ⟨h3.os, h3.tape, h3.output, h3.size, fun k hk => h3.block k hk (by simp [Value.ownBlock])⟩, fun q hq => ?_⟩
    rcases h5 with h5 | h5
    · rw [h5] at hq; simp [Value.ownBlock] at hq
    · rw [h5] at hq
      injection hq with hq
      omega
theorem step_copy {P : Program} {w : World} {ops : Array Oper} {o : Oper} {a : Act} {Q : Exit → Act → World → Prop} {K : Act → World → Prop} {E : Prop} (hgd : o.guard = none) (s x : Operand) (t : TypeId) (ho : o.op = .call { callee := .builtin .append, args := #[s, x], argTypes := #[t, t] })
    (base : Nat) {e : TypeId} {size bytes : Nat} (R : Row P t e size bytes) (hs : a.eval s = .slice none 0 0)
    (B : Nat) (Y : Option Addr) (m c1 : Nat) (ys : List Value) (hx : a.eval x = .slice Y m c1) (hr : Rd w B size Y m ys) (h1 : ∀ u ∈ ys, u.oneCell' = true)
    (h63 : m ≤ maxLen) (hbytes : m * bytes ≤ 140737488355328) (hbase : base ≤ w.heap.size)
    (h : ∀ A' c' w', m ≤ c' → w'.ownsRow base e size (.slice A' m c') m ys → Below w.heap.size w w' → (∀ q, (Value.slice A' m c').ownBlock = some q → w.heap.size ≤ q) → K (a.put o.dst (.slice A' m c')) w') :
    if Region.wanted o (yielded ops a.tmps) = true then Oper.wp P o a w K Q else E := by
  have hw : Region.wanted o (yielded ops a.tmps) = true := by simp [Region.wanted, hgd]
  rw [if_pos hw]
  obtain ⟨A', c', w', hrun, h2, h3, h4, h5⟩ := run_copy (P := P) (w := w) o.type t base R B Y m c1 ys hr h1 h63 hbytes hbase
  unfold Oper.wp execOp
  simp only [ho, resolve, invoke, builtin, Sem.run_bind, Sem.run_pure, Result.andThen_ok, List.map_toArray, List.map_cons, List.map_nil, hs, hx, hrun]
  exact h A' c' w' h2 h3 h4 h5
theorem wpList_copy {P : Program} {w : World} {ops : Array Oper} {rest : List Oper} {o : Oper} {a : Act} {Q : Exit → Act → World → Prop} (hgd : o.guard = none) (s x : Operand) (t : TypeId) (ho : o.op = .call { callee := .builtin .append, args := #[s, x], argTypes := #[t, t] })
    (base : Nat) {e : TypeId} {size bytes : Nat} (R : Row P t e size bytes) (hs : a.eval s = .slice none 0 0)
    (B : Nat) (Y : Option Addr) (m c1 : Nat) (ys : List Value) (hx : a.eval x = .slice Y m c1) (hr : Rd w B size Y m ys) (h1 : ∀ u ∈ ys, u.oneCell' = true)
    (h63 : m ≤ maxLen) (hbytes : m * bytes ≤ 140737488355328) (hbase : base ≤ w.heap.size)
    (h : ∀ A' c' w', m ≤ c' → w'.ownsRow base e size (.slice A' m c') m ys → Below w.heap.size w w' → (∀ q, (Value.slice A' m c').ownBlock = some q → w.heap.size ≤ q) → wpList P ops Q rest (a.put o.dst (.slice A' m c')) w') :
    wpList P ops Q (o :: rest) a w := by
  refine wpList_plain hgd fun K hK => ?_
  obtain ⟨A', c', w', hrun, h2, h3, h4, h5⟩ := run_copy (P := P) (w := w) o.type t base R B Y m c1 ys hr h1 h63 hbytes hbase
  unfold Oper.wp execOp
  simp only [ho, resolve, invoke, builtin, Sem.run_bind, Sem.run_pure, Result.andThen_ok, List.map_toArray, List.map_cons, List.map_nil, hs, hx, hrun]
  exact hK _ _ (h A' c' w' h2 h3 h4 h5)
def topCl (nm : List UInt8) : Frs → Bool
  | [] => false
  | (_, h) :: _ => closesL h.1 nm
set_option maxHeartbeats 4000000 in
set_option maxRecDepth 100000 in
theorem begin_any {w : World} {base bb N : Nat} {z : Zp} (h : BI w base bb N z) (hN : N ≤ 9000) (t : Tk) (A : Option Addr) (c : Nat) (ht : t.name.length ≤ 1000) (hal : t.attrs.length ≤ 1000) (hat : Atrs w base A t.attrs.length t.attrs) :
    Calls Tryz.prog 354 #[.pointer (some ⟨bb, 0, none⟩), tkV t A c] w fun e w' => e = .returned (.tuple #[]) ∧ Below base w w' ∧ BI w' base bb (N + 3) (beginZ z t.name t.attrs) := by
  obtain ⟨own, mm, g, outs, opens, h1, h2⟩ := h
  have hbase := (h1.lt bb _ h1.me)
  have hbs : base ≤ w.heap.size := by omega
  unfold tkV
  generalize t.kind = kd
  generalize t.name = nm at *
  generalize t.attrs = ats at *
  generalize t.text = tx at *
  have hnew := heap_alloc_new w (.cells #[.int .i64 kd, .string ⟨nm.toArray⟩, .slice A ats.length c, .string ⟨tx.toArray⟩] 443)
  have b0 : Below w.heap.size w (w.alloc (.cells #[.int .i64 kd, .string ⟨nm.toArray⟩, .slice A ats.length c, .string ⟨tx.toArray⟩] 443)) := (Below.refl _ w).alloc (Nat.le_refl _) _
  have hM := h1.below b0 (Nat.le_refl _)
  have hZ := h2.more b0.size
  have HB := Lib.hid b0
  have HM := Lib.hid hM
  have HO := Lib.hid (own_fresh h1 (Nat.le_refl w.heap.size))
  clear h1 h2 hM b0
  go_enter Tryz.func354, Tryz.ntmps354
  go_wp2
  go_loopg [] (z.fr.length) (fun gk wr => ∃ bs fs l, gk = fs.length ∧ MI wr own base bb mm N g outs bs (cntF fs) ∧ ZR g outs bs wr.heap.size ⟨fs, l⟩ ∧ Hid (popWhile nm fs l = popWhile nm z.fr z.last) ∧ Below base w wr ∧ Hid (wr.heap[w.heap.size]? = some (.cells #[.int .i64 kd, .string ⟨nm.toArray⟩, .slice A ats.length c, .string ⟨tx.toArray⟩] 443 (0, 0))) ∧ w.heap.size < wr.heap.size)
  case atStart =>
    exact ⟨opens, z.fr, z.last, rfl, HM.out, hZ, rfl, HB.out.mono hbs, hnew, by simp⟩
  case round =>
    obtain ⟨bs, fs, l, rfl, hM, hZr, hpop, hbw, htk, hws⟩ := hrel
    clear hnew hZ
    have htk1 : ∀ w', Below wr.heap.size wr w' → w'.cell? ⟨w.heap.size, 1, none⟩ = some (.string ⟨nm.toArray⟩) := fun w' hw' => (hw'.cell (p := ⟨w.heap.size, 1, none⟩) hws).trans (by rw [Lib.cell_of_heap htk.out]; rfl)
    go_upto_region 1 with fail
    go_cut [31] (fun s31 wx => s31 = .bool (topCl nm fs) ∧ Below wr.heap.size wr wx)
    case first =>
      cases fs with
      | nil =>
        have hb0 : bs = [] := by
          have := hZr.1.len
          exact List.eq_nil_of_length_eq_zero (by simpa using this)
        subst hb0
        obtain ⟨OV, PV, hb, _, hP⟩ := hM.blk
        obtain ⟨PA, pc, rfl, _⟩ := own_shape hP.row
        have c1 := Lib.cell_of_heap hb 1
        simp only [List.getElem?_toArray, List.getElem?_cons_zero, List.getElem?_cons_succ, List.length_nil] at c1
        go_region
        all_goals
          go_wp2_with fail
          go_meet
          exact ⟨rfl, below_drewN (Below.refl _ _) _⟩
      | cons f fs =>
        obtain ⟨k, h⟩ := f
        cases bs with
        | nil => have := hZr.1.len; simp at this
        | cons b bs =>
          have e0 := hZr.1
          simp only [Sp] at e0
          obtain ⟨⟨ids, e1⟩, _⟩ := e0
          obtain ⟨A0, n0, c0, TV0, KV0, hr0, _⟩ := (hM.recs b _ e1).cells
          have hbl := (hM.lt b _ (hM.recs b _ e1).role).2
          have hbb := (hM.lt bb _ hM.me).2
          have hnl : h.1.length ≤ 1000000 := Nat.le_trans (hM.recs b _ e1).nm (by decide)
          have hlen := hM.fewP
          simp only [List.length_cons] at hlen
          obtain ⟨PA, n, cp, c1, hn, hnc, hcm, c2, _, _, _⟩ := hM.pop
          have hPA : PA < wr.heap.size := by
            have := World.block_lt_of_cell? wr _ c2
            exact this
          have hn1 : n ≤ 10000 := by omega
          obtain ⟨m, hm⟩ : ∃ m, m = n + 1 := ⟨_, rfl⟩
          rw [← hm] at c1
          have hi1 : (0 : Int) < (m : Int) := by omega
          have hi0 : 0 < m := by omega
          have hi2 : IntKind.i64.wrap ((m : Int) - 1) = (n : Int) := by rw [IntWalk.i64_in _ (by omega)]; omega
          have hi3 : (0 : Int) ≤ (n : Int) := by omega
          have hi4 : (n : Int) < (m : Int) := by omega
          have p1 : ∀ w', Below wr.heap.size wr w' → w'.cell? ⟨bb, 1, none⟩ = some (.slice (some ⟨PA, 0, none⟩) m cp) := fun w' hw' => (hw'.cell (p := ⟨bb, 1, none⟩) hbb).trans c1
          have p2 : ∀ w', Below wr.heap.size wr w' → w'.cell? ⟨PA, n, none⟩ = some (.pointer (some ⟨b, 0, none⟩)) := fun w' hw' => (hw'.cell (p := ⟨PA, n, none⟩) hPA).trans c2
          have p3 : ∀ w', Below wr.heap.size wr w' → w'.cell? ⟨b, 1, none⟩ = some (.string ⟨h.1.toArray⟩) := fun w' hw' => (hw'.cell (p := ⟨b, 1, none⟩) hbl).trans (by rw [Lib.cell_of_heap hr0]; rfl)
          have hbel := Below.refl wr.heap.size wr
          have HZR := Lib.hid hZr
          have HMr := Lib.hid hM
          clear hZr hM c1 c2 hr0 e1 hn hlen hm hnc hn1 hcm
          go_region_held3 (fun w' => Below wr.heap.size wr w')
            (first
              | exact hbel
              | go_keep
              | (exact Below.drew (by assumption))
              | (exact Below.trans (by assumption) (Below.mono (by assumption) (Below.size (by assumption)))))
            (first
              | (go_at_call 92; refine (mCloses_any h.1 nm hnl _).mono ?_; rintro e W2 ⟨rfl, b2⟩))
          all_goals
            rename Below wr.heap.size wr _ => b7
            go_wp2_with fail
            go_meet
            exact ⟨rfl, b7⟩
    case rest =>
      obtain ⟨rfl, b2⟩ := hcut
      have hM2 := hM.below b2 (Nat.le_refl _)
      have hZ2 := hZr.more b2.size
      have htk2 := Lib.hid ((b2.block w.heap.size hws).trans htk.out)
      have hbw2 := hbw.trans (b2.mono (by have := hbw.size; omega))
      have hws2 := Nat.lt_of_lt_of_le hws b2.size
      have HP := hpop
      clear hM hZr htk hbw htk1 hpop hws b2
      cases hcl : topCl nm fs with
      | true =>
        cases fs with
        | nil => cases hcl
        | cons f fs =>
          obtain ⟨k, h⟩ := f
          have HCL := Lib.hid (show closesL h.1 nm = true from hcl)
          obtain ⟨bs', hcall⟩ := shut_z hM2 hZ2 (by omega)
          clear hcl
          go_wp2_with fail
          refine hcall.mono ?_
          rintro e W2 ⟨rfl, B2, F2, M2, Z2⟩
          have hs2 := B2.size
          have hS : w.heap.size < W2.heap.size := Nat.lt_of_lt_of_le hws2 hs2
          have HT2 := Lib.hid ((F2 w.heap.size HO.out hws2).trans htk2.out)
          have hBW := hbw2.trans B2
          clear hcall
          go_wp2
          go_roundg (fs.length)
          case measure => simp
          case rel =>
            refine ⟨bs', fs, k ++ [elemN h l], rfl, M2, Z2.more hs2, ?_, hBW, HT2, hS⟩
            have hp := HP.out
            simp only [popWhile, HCL.out, if_true] at hp
            exact hp
      | false =>
        have hz : popWhile nm z.fr z.last = ⟨fs, l⟩ := by
          rw [← HP.out]
          cases fs with
          | nil => rfl
          | cons f fs =>
            obtain ⟨k, h⟩ := f
            have hcl' : closesL h.1 nm = false := hcl
            simp [popWhile, hcl']
        have HZP := Lib.hid hz
        clear hz hcl HP
        go_wp2_with fail
        rename World => W
        have hbW : base ≤ W.heap.size := by omega
        have hatW : Rd W base 2 A ats.length (atrCells ats) := Rd.below (B := base) hat hbw2
        have q1 : ∀ w', Below W.heap.size W w' → w'.cell? ⟨w.heap.size, 1, none⟩ = some (.string ⟨nm.toArray⟩) := fun w' hw' => (hw'.cell (p := ⟨w.heap.size, 1, none⟩) hws2).trans (by rw [Lib.cell_of_heap htk2.out]; rfl)
        have q2 : ∀ w', Below W.heap.size W w' → w'.cell? ⟨w.heap.size, 2, none⟩ = some (.slice A ats.length c) := fun w' hw' => (hw'.cell (p := ⟨w.heap.size, 2, none⟩) hws2).trans (by rw [Lib.cell_of_heap htk2.out]; rfl)
        have hbel := Below.refl W.heap.size W
        have HM2 := Lib.hid hM2
        have HZ2 := Lib.hid hZ2
        have h63 : ats.length ≤ maxLen := by unfold maxLen; omega
        have hby : ats.length * 32 ≤ 140737488355328 := by omega
        clear hM2 hZ2 hat
        go_region_held3 (fun w' => Below W.heap.size W w')
          (first
            | exact hbel
            | go_keep
            | (exact Below.drew (by assumption))
            | (exact (hbel.drew).trans (by assumption))
            | (exact Below.alloc (by assumption) (Below.size (by assumption)) _))
          (first
            | (refine step_copy (by rfl) _ _ _ (by rfl) base rowAt (by rfl) base A ats.length c (atrCells ats) (by rfl) hatW (atrCells_one ats) h63 hby hbW ?_; intro A5 c5 w5 hc5 ho5 b5 hat5))
        have b5' : Below W.heap.size W w5 := (hbel.drew).trans b5
        have s5 := b5'.size
        have hn6 := heap_alloc_new w5 (.cells #[.int .i64 1, .string ⟨nm.toArray⟩, .slice A5 ats.length c5, .string ⟨#[]⟩, .slice none 0 0, .slice none 0 0, .slice none 0 0] 482)
        have b6 := b5'.alloc s5 (.cells #[.int .i64 1, .string ⟨nm.toArray⟩, .slice A5 ats.length c5, .string ⟨#[]⟩, .slice none 0 0, .slice none 0 0, .slice none 0 0] 482)
        obtain ⟨own6, _, hM6, _, hinv⟩ := ((HM2.out.below b6 (Nat.le_refl _)).more (Nat.le_succ N)).new (b := w5.heap.size) (k := 1) (nm := nm) (ats := ats) (tx := []) (A := A5) (n := ats.length) (c := c5) (TV := .slice none 0 0) (e2 := 78) hn6 (by omega) (own_fresh HM2.out s5)
          (ho5.alloc _) (fun q hq => ⟨own_fresh HM2.out (hat5 q hq), by have := (ho5.lt q hq).2; omega⟩) (ByR.nil _ _) (fun q hq => by simp [Value.ownBlock] at hq) hal (by simp) ht
        have ho6 : own6 w.heap.size = none := by
          cases ho : own6 w.heap.size with
          | none => rfl
          | some x =>
            rcases hinv _ _ ho with h9 | h9 | h9 | h9
            · rw [HO.out] at h9; cases h9
            · omega
            · have h10 := hat5 _ h9
              have h11 : W.drew.heap.size = W.heap.size := rfl
              omega
            · simp [Value.ownBlock] at h9
        have htk6 := (b6.block w.heap.size hws2).trans htk2.out
        have HM6 := Lib.hid hM6
        have HB6 := Lib.hid (hbw2.trans (b6.mono hbW))
        have hs6 : w.heap.size < (w5.alloc (.cells #[.int .i64 1, .string ⟨nm.toArray⟩, .slice A5 ats.length c5, .string ⟨#[]⟩, .slice none 0 0, .slice none 0 0, .slice none 0 0] 482)).heap.size := by rw [World.size_alloc]; omega
        clear hM6 hn6 b6 hinv ho5 hat5 b5 q1 q2 hbel hatW
        go_wp2_with fail
        refine (add_new HM6.out HZ2.out s5 (by simp) (by omega)).mono ?_
        rintro e W7 ⟨rfl, b7, f7, own7, g7, outs7, m7, z7, cl, hcl⟩
        have htk7 := (f7 _ ho6 hs6).trans htk6
        have B7 := HB6.out.trans b7
        have s7 := b7.size
        have c7 := Lib.cell_of_heap htk7 1
        simp only [List.getElem?_toArray, List.getElem?_cons_zero, List.getElem?_cons_succ] at c7
        have HBZ := Lib.hid (show beginZ z nm ats = if voidL nm then ⟨fs, l ++ [elemN (nm, ats) []]⟩ else ⟨(l, (nm, ats)) :: fs, []⟩ by simp only [beginZ, HZP.out])
        have HCL := Lib.hid hcl
        have HZ7 := Lib.hid z7
        have hs7 : w.heap.size < W7.heap.size := by omega
        clear hcl z7 b7 f7 htk6 ho6
        go_wp2_with fail
        refine (dVoid_any nm _).mono ?_
        rintro e W8 ⟨rfl, rfl⟩
        cases hv : voidL nm with
        | true =>
          rw [hv] at HBZ
          have HV := Lib.hid hv
          clear hv
          go_wp2
          go_end0
          rw [HBZ.out]
          exact ⟨rfl, B7, own7, mm, g7, outs7, bs, m7.more (by omega), HZ7.out⟩
        | false =>
          rw [hv] at HBZ
          have HV := Lib.hid hv
          clear hv
          have hlen := m7.fewP
          obtain ⟨V, p1, p2, p3, p4, p5, p6, p7, p8, p9⟩ := m7.push
          obtain ⟨AV, cV, rfl, hcV⟩ := own_shape p4
          have hbW7 : base ≤ W7.heap.size := by omega
          have hbne : some w.heap.size ≠ (Value.slice AV bs.length cV).ownBlock := fun e9 => Lib.ownBlock_ne p4 htk7 (by decide) e9.symm
          clear m7
          go_wp2_with (at_builtin; refine wpList_push_at rfl _ _ _ rfl base rowPt AV _ cV _ rfl p4 [.pointer (some ⟨w5.heap.size, 0, none⟩)] _ rfl rfl (by simp [Value.oneCell']) (by unfold maxLen; omega) (by omega) hbW7 ?_)
          intro A9 c9 w9 hc9 ho9 hg9 hat9
          obtain ⟨own9, _, M9⟩ := p9 w9 _ w5.heap.size hg9 ho9 hat9
          have hcw : ∀ o, w9.cell? ⟨bb, o, none⟩ = W7.cell? ⟨bb, o, none⟩ := fun o => (grown_cell hg9 (a := ⟨bb, o, none⟩) p6 p5).1
          have g1 := (hcw 1).trans p1
          have g2 := (hcw 2).trans p2
          have g3 := (grown_cell hg9 (a := ⟨bb, 1, none⟩) p6 p5).2.trans p3
          have htk9 := (hg9.block w.heap.size hs7 hbne).trans htk7
          have t9 : ∀ u, (w9.setCell ⟨bb, 1, none⟩ u).cell? ⟨w.heap.size, 1, none⟩ = some (.string ⟨nm.toArray⟩) := fun u =>
            (World.cell?_of_block (a := ⟨w.heap.size, 1, none⟩) (heap_setCell_other (p := ⟨bb, 1, none⟩) (by simp only []; omega))).trans (by rw [Lib.cell_of_heap htk9]; rfl)
          have B9 : Below base w (w9.setCell ⟨bb, 1, none⟩ (.slice A9 (bs.length + 1) c9)) := (B7.grown hg9 hbW7 (own_ge p4)).setCell (p := ⟨bb, 1, none⟩) p7 _
          have S9 : W7.heap.size ≤ (w9.setCell ⟨bb, 1, none⟩ (.slice A9 (bs.length + 1) c9)).heap.size := by rw [size_set]; exact hg9.size
          obtain ⟨n9, m9⟩ := M9.map
          have hl9 := look_cnt m9.drew nm (by omega)
          have hkey : keyOf Tryz.prog 9 (.string ⟨nm.toArray⟩) = some (.string nm) := keyOf_string_mk Tryz.underlying9 (by unfold maxLen; show nm.toArray.size ≤ _; simp; omega)
          obtain ⟨W10, hup, m10, gr10⟩ := m9.drew.set keyS Tryz.underlying169 hkey (f' := cntF ((l, (nm, ats)) :: fs)) (cntF_top l (nm, ats) fs) (fun y hy => (cntF_rest l (nm, ats) fs y hy).symm)
          have M10 := M9.drew.mapped m10 gr10
          have hcl2 := cntN_le nm fs
          have hzl2 := HZ7.out.1.len
          simp only at hzl2
          have hcb : cntN nm fs ≤ 10000 := by omega
          have B10 : Below base w W10 := B9.drew.grown gr10 (by have := (M9.lt mm _ M9.cnt); show base ≤ (w9.setCell ⟨bb, 1, none⟩ (.slice A9 (bs.length + 1) c9)).heap.size; omega) (fun q hq => by injection hq with hq; subst hq; exact (M9.lt mm _ M9.cnt).1)
          have S10 : W7.heap.size ≤ W10.heap.size := Nat.le_trans S9 gr10.size
          have HM10 := Lib.hid M10
          clear p9 p1 p2 p3 hcw ho9 hat9 hg9 M9 m9 m10 M10 gr10 htk9 hkey hzl2 hcl2 B9 S9 htk7 c7
          simp only at hup
          generalize cntN nm fs = cnm at *
          go_wp2
          go_region
          all_goals
            go_wp2
            go_end0
            rw [HBZ.out]
            exact ⟨rfl, B10, own9, mm, g7, outs7, _, HM10.out, (HZ7.out.openN HCL.out).more S10⟩
end Go.Proofs.YtnkelhmjkmeilaaGreatDoor.K
end
section
namespace Go.Proofs.YtnkelhmjkmeilaaGreatDoor.K
open Go.RowKit Go.Maps Go.WideMaps
attribute [local go_sem ↓] Go.wp_at_zero Go.wp_at_succ
def deedF (v : Value) : Option Value := match v with
  | .int .i64 k => if k = 1 then some (.func (.func 354) #[] #[]) else if k = 2 then some (.func (.func 355) #[] #[])
      else if k = 3 then some (.func (.func 356) #[] #[]) else if k = 4 then some (.func (.func 357) #[] #[]) else none
  | _ => none
def deedP (n : Nat) (v : Value) : Option Value := match v with
  | .int .i64 k => if k ≤ n then deedF (.int .i64 k) else none
  | _ => none
theorem keyI : Keyed Tryz.prog 3 := int_keyed Tryz.underlying3
theorem deedP_new (n : Nat) (k : Int) (hk : k = n) : deedP n (.int .i64 k) = deedF (.int .i64 k) := by simp [deedP, hk]
theorem deedP_old (n : Nat) (y : Value) (hy : y ≠ .int .i64 ((n + 1 : Nat) : Int)) : deedP (n + 1) y = deedP n y := by
  unfold deedP
  split
  · rename_i k
    have : k ≠ ((n + 1 : Nat) : Int) := fun e => hy (by rw [e])
    by_cases h : k ≤ n
    · rw [if_pos h, if_pos (by omega)]
    · rw [if_neg h, if_neg (by omega)]
  · rfl
theorem deedP_four : deedP 4 = deedF := by
  funext v
  unfold deedP
  split
  · rename_i k
    split
    · rfl
    · rename_i h
      simp only [deedF]
      rw [if_neg (by omega), if_neg (by omega), if_neg (by omega), if_neg (by omega)]
  · rename_i h
    unfold deedF
    split
    · rename_i k; exact absurd rfl (h k)
    · rfl
theorem deedP_zero : ∀ y, deedP 0 y = none := by
  intro y
  unfold deedP
  split
  · rename_i k
    split
    · rename_i h
      simp only [deedF]
      rw [if_neg (by omega), if_neg (by omega), if_neg (by omega), if_neg (by omega)]
    · rfl
  · rfl
set_option maxRecDepth 100000 in
theorem deeds_any (w : World) : Calls Tryz.prog 353 #[] w fun e w' => ∃ b n, e = .returned (.map (some b)) ∧ MapIs Tryz.prog 3 w' b n deedF ∧ Below w.heap.size w w' := by
  have hmm := @run_makeMap Tryz.prog
  have m0 : MapIs Tryz.prog 3 (w.alloc (.map #[] 0)) w.heap.size 0 (deedP 0) := (funext deedP_zero : deedP 0 = fun _ => none) ▸ MapIs.made _ _ w
  have b0 : Below w.heap.size w (w.alloc (.map #[] 0)) := (Below.refl _ w).alloc (Nat.le_refl _) _
  have hkey : ∀ k : Int, (Lit.int .i64 k).wf = true → keyOf Tryz.prog 3 (.int .i64 k) = some (.int .i64 k) := fun k hk => keyOf_int_mk Tryz.underlying3 hk
  go_enter Tryz.func353, Tryz.ntmps353
  go_wp2_with (first
    | (refine wpList_mapset rfl _ _ _ _ (.inr rfl) keyI Tryz.underlying474 rfl m0 _ _ _ rfl rfl (hkey _ rfl) (deedP 1) (deedP_new 1 1 rfl) (fun y hy => deedP_old 0 y hy) ?_; intro w1 m1 g1; have b1 := below_map b0 g1 (Nat.le_refl _); clear g1 m0)
    | (refine wpList_mapset rfl _ _ _ _ (.inr rfl) keyI Tryz.underlying474 rfl m1 _ _ _ rfl rfl (hkey _ rfl) (deedP 2) (deedP_new 2 2 rfl) (fun y hy => deedP_old 1 y hy) ?_; intro w2 m2 g2; have b2 := below_map b1 g2 (Nat.le_refl _); clear g2 m1)
    | (refine wpList_mapset rfl _ _ _ _ (.inr rfl) keyI Tryz.underlying474 rfl m2 _ _ _ rfl rfl (hkey _ rfl) (deedP 3) (deedP_new 3 3 rfl) (fun y hy => deedP_old 2 y hy) ?_; intro w3 m3 g3; have b3 := below_map b2 g3 (Nat.le_refl _); clear g3 m2)
    | (refine wpList_mapset rfl _ _ _ _ (.inr rfl) keyI Tryz.underlying474 rfl m3 _ _ _ rfl rfl (hkey _ rfl) (deedP 4) (deedP_new 4 4 rfl) (fun y hy => deedP_old 3 y hy) ?_; intro w4 m4 g4; have b4 := below_map b3 g4 (Nat.le_refl _); clear g4 m3))
  go_ret
  exact ⟨_, _, rfl, deedP_four ▸ m4, b4⟩
theorem BI.more {w : World} {base bb N N' : Nat} {z : Zp} (h : BI w base bb N z) (hN : N ≤ N') : BI w base bb N' z := by
  obtain ⟨own, mm, g, outs, opens, h1, h2⟩ := h
  exact ⟨own, mm, g, outs, opens, h1.more hN, h2⟩
abbrev KindOk (k : Int) : Prop := -9223372036854775808 ≤ k ∧ k ≤ 9223372036854775807
set_option maxHeartbeats 1000000 in
set_option maxRecDepth 100000 in
theorem Put_any {w : World} {base bb N : Nat} {z : Zp} (h : BI w base bb N z) (hN : N ≤ 9000) (t : Tk) (A : Option Addr) (c : Nat) (hk : KindOk t.kind) (ht : t.name.length ≤ 1000) (hx : t.text.length ≤ 2000) (hal : t.attrs.length ≤ 1000) (hat : Atrs w base A t.attrs.length t.attrs) :
    Calls Tryz.prog 351 #[.pointer (some ⟨bb, 0, none⟩), tkV t A c] w fun e w' => e = .returned (.tuple #[]) ∧ Below base w w' ∧ BI w' base bb (N + 3) (putZ z t) := by
  have hbs : base ≤ w.heap.size := by
    obtain ⟨own, mm, g, outs, opens, h1, h2⟩ := h
    have := (h1.lt bb _ h1.me)
    omega
  have hkey : keyOf Tryz.prog 3 (.int .i64 t.kind) = some (.int .i64 t.kind) := keyOf_int_mk Tryz.underlying3 (by
    show (decide (IntKind.i64.min ≤ t.kind) && decide (t.kind ≤ IntKind.i64.max)) = true
    rw [Bool.and_eq_true, decide_eq_true_eq, decide_eq_true_eq]
    exact hk)
  have hz : ∀ w, (zeroValue 472).run Tryz.prog w = .ok .nilFunc w := fun w => by kernel_rfl
  have hnew := heap_alloc_new w (.cells #[.int .i64 t.kind, .string ⟨t.name.toArray⟩, .slice A t.attrs.length c, .string ⟨t.text.toArray⟩] 443)
  have b0 : Below w.heap.size w (w.alloc (.cells #[.int .i64 t.kind, .string ⟨t.name.toArray⟩, .slice A t.attrs.length c, .string ⟨t.text.toArray⟩] 443)) := (Below.refl _ w).alloc (Nat.le_refl _) _
  have s0 : (w.alloc (.cells #[.int .i64 t.kind, .string ⟨t.name.toArray⟩, .slice A t.attrs.length c, .string ⟨t.text.toArray⟩] 443)).heap.size = w.heap.size + 1 := World.size_alloc _ _
  have hF : ∀ W1, Below (w.alloc (.cells #[.int .i64 t.kind, .string ⟨t.name.toArray⟩, .slice A t.attrs.length c, .string ⟨t.text.toArray⟩] 443)).drew.heap.size (w.alloc (.cells #[.int .i64 t.kind, .string ⟨t.name.toArray⟩, .slice A t.attrs.length c, .string ⟨t.text.toArray⟩] 443)).drew W1 →
      W1.cell? ⟨w.heap.size, 0, none⟩ = some (.int .i64 t.kind) ∧ Below w.heap.size w W1 ∧ (∀ j, W1.cell? ⟨w.heap.size, j, none⟩ = (#[.int .i64 t.kind, .string ⟨t.name.toArray⟩, .slice A t.attrs.length c, .string ⟨t.text.toArray⟩] : Array Value)[j]?) := by
    intro W1 b1
    have hs1 : w.heap.size < (w.alloc (.cells #[.int .i64 t.kind, .string ⟨t.name.toArray⟩, .slice A t.attrs.length c, .string ⟨t.text.toArray⟩] 443)).drew.heap.size := by
      show w.heap.size < (w.alloc (.cells #[.int .i64 t.kind, .string ⟨t.name.toArray⟩, .slice A t.attrs.length c, .string ⟨t.text.toArray⟩] 443)).heap.size
      omega
    have hh := (b1.block w.heap.size hs1).trans hnew
    exact ⟨by rw [Lib.cell_of_heap hh]; rfl, (b0.drew).trans (b1.mono (by omega)), fun j => Lib.cell_of_heap hh j⟩
  have H := Lib.hid h
  have HK := Lib.hid hkey
  have HF := Lib.hid hF
  clear h hkey hnew s0 b0 hF
  by_cases h1 : t.kind = 1
  · have hd : deedF (.int .i64 t.kind) = some (.func (.func 354) #[] #[]) := by rw [h1]; rfl
    have HP := Lib.hid (show putZ z t = beginZ z t.name t.attrs by simp [putZ, h1])
    have HD := Lib.hid hd
    clear h1 hd
    go_enter Tryz.func351, Tryz.ntmps351
    unfold tkV
    go_wp2
    go_region_with (go_at_call 353; refine (deeds_any _).mono ?_; rintro e W1 ⟨b, n, rfl, m1, b1⟩; have hl := m1.look keyI Tryz.underlying474 (hz _) HK.out true; rw [HD.out] at hl; simp only [if_true] at hl; have hc0 := (HF.out W1 b1).1)
    all_goals
      obtain ⟨_, hB1, hcs⟩ := HF.out _ b1
      have hcs1 := hcs 1
      have hcs2 := hcs 2
      have hcs3 := hcs 3
      simp only [List.getElem?_toArray, List.getElem?_cons_zero, List.getElem?_cons_succ] at hcs1 hcs2 hcs3
      have HBI := Lib.hid (H.out.below hB1 (Nat.le_refl _))
      clear hl m1 hcs b1
      go_wp2_with fail
      refine (begin_any HBI.out hN t A c ht hal (Rd.below (B := base) hat (hB1.mono hbs))).mono ?_
      rintro e W2 ⟨rfl, b2, i2⟩
      go_wp2
      go_end0
      rw [HP.out]
      exact ⟨rfl, (hB1.mono hbs).trans b2, i2⟩
  by_cases h2 : t.kind = 2
  · have hd : deedF (.int .i64 t.kind) = some (.func (.func 355) #[] #[]) := by rw [h2]; rfl
    have HP := Lib.hid (show putZ z t = endZ z t.name by simp [putZ, h2])
    have HD := Lib.hid hd
    clear h1 h2 hd
    go_enter Tryz.func351, Tryz.ntmps351
    unfold tkV
    go_wp2
    go_region_with (go_at_call 353; refine (deeds_any _).mono ?_; rintro e W1 ⟨b, n, rfl, m1, b1⟩; have hl := m1.look keyI Tryz.underlying474 (hz _) HK.out true; rw [HD.out] at hl; simp only [if_true] at hl; have hc0 := (HF.out W1 b1).1)
    all_goals
      obtain ⟨_, hB1, hcs⟩ := HF.out _ b1
      have hcs1 := hcs 1
      have hcs2 := hcs 2
      have hcs3 := hcs 3
      simp only [List.getElem?_toArray, List.getElem?_cons_zero, List.getElem?_cons_succ] at hcs1 hcs2 hcs3
      have HBI := Lib.hid (H.out.below hB1 (Nat.le_refl _))
      clear hl m1 hcs b1
      go_wp2_with fail
      refine (end_any HBI.out hN t A c ht).mono ?_
      rintro e W2 ⟨rfl, b2, i2⟩
      go_wp2
      go_end0
      rw [HP.out]
      exact ⟨rfl, (hB1.mono hbs).trans b2, i2⟩
  by_cases h3 : t.kind = 3
  · have hd : deedF (.int .i64 t.kind) = some (.func (.func 356) #[] #[]) := by rw [h3]; rfl
    have HP := Lib.hid (show putZ z t = charsZ z t.text by simp [putZ, h3])
    have HD := Lib.hid hd
    clear h1 h2 h3 hd
    go_enter Tryz.func351, Tryz.ntmps351
    unfold tkV
    go_wp2
    go_region_with (go_at_call 353; refine (deeds_any _).mono ?_; rintro e W1 ⟨b, n, rfl, m1, b1⟩; have hl := m1.look keyI Tryz.underlying474 (hz _) HK.out true; rw [HD.out] at hl; simp only [if_true] at hl; have hc0 := (HF.out W1 b1).1)
    all_goals
      obtain ⟨_, hB1, hcs⟩ := HF.out _ b1
      have hcs1 := hcs 1
      have hcs2 := hcs 2
      have hcs3 := hcs 3
      simp only [List.getElem?_toArray, List.getElem?_cons_zero, List.getElem?_cons_succ] at hcs1 hcs2 hcs3
      have HBI := Lib.hid (H.out.below hB1 (Nat.le_refl _))
      clear hl m1 hcs b1
      go_wp2_with fail
      refine (chars_any HBI.out hN t A c hx).mono ?_
      rintro e W2 ⟨rfl, b2, i2⟩
      go_wp2
      go_end0
      rw [HP.out]
      exact ⟨rfl, (hB1.mono hbs).trans b2, i2⟩
  by_cases h4 : t.kind = 4
  · have hd : deedF (.int .i64 t.kind) = some (.func (.func 357) #[] #[]) := by rw [h4]; rfl
    have HP := Lib.hid (show putZ z t = remarkZ z t.text by simp [putZ, h4])
    have HD := Lib.hid hd
    clear h1 h2 h3 h4 hd
    go_enter Tryz.func351, Tryz.ntmps351
    unfold tkV
    go_wp2
    go_region_with (go_at_call 353; refine (deeds_any _).mono ?_; rintro e W1 ⟨b, n, rfl, m1, b1⟩; have hl := m1.look keyI Tryz.underlying474 (hz _) HK.out true; rw [HD.out] at hl; simp only [if_true] at hl; have hc0 := (HF.out W1 b1).1)
    all_goals
      obtain ⟨_, hB1, hcs⟩ := HF.out _ b1
      have hcs1 := hcs 1
      have hcs2 := hcs 2
      have hcs3 := hcs 3
      simp only [List.getElem?_toArray, List.getElem?_cons_zero, List.getElem?_cons_succ] at hcs1 hcs2 hcs3
      have HBI := Lib.hid (H.out.below hB1 (Nat.le_refl _))
      clear hl m1 hcs b1
      go_wp2_with fail
      refine (remark_any HBI.out hN t A c hx).mono ?_
      rintro e W2 ⟨rfl, b2, i2⟩
      go_wp2
      go_end0
      rw [HP.out]
      exact ⟨rfl, (hB1.mono hbs).trans b2, i2⟩
  have hd : deedF (.int .i64 t.kind) = none := by simp only [deedF, h1, h2, h3, h4, if_false]
  have HP := Lib.hid (show putZ z t = z by simp only [putZ, h1, h2, h3, h4, if_false])
  have HD := Lib.hid hd
  clear h1 h2 h3 h4 hd
  go_enter Tryz.func351, Tryz.ntmps351
  unfold tkV
  go_wp2
  go_region_with (go_at_call 353; refine (deeds_any _).mono ?_; rintro e W1 ⟨b, n, rfl, m1, b1⟩; have hl := m1.look keyI Tryz.underlying474 (hz _) HK.out true; rw [HD.out] at hl; simp only [if_true] at hl; have hc0 := (HF.out W1 b1).1)
  all_goals
    go_wp2
    go_end0
    rw [HP.out]
    exact ⟨rfl, (HF.out _ b1).2.1.mono hbs, (H.out.below (HF.out _ b1).2.1 (Nat.le_refl _)).more (by omega)⟩
end Go.Proofs.YtnkelhmjkmeilaaGreatDoor.K
end
