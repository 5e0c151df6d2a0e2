/- strainerref07: put for every path, Put. -/
import Derived.Test.YtlfkipilgdeemaaKz
import Derived.Deep.DeepCutAuto
import Derived.IntWalk
namespace Go.Proofs.Ytlfkipilgdeemaa
open Go.RowKit Go.Maps Go.WideMaps
attribute [local go_sem ↓] Go.wp_at_zero Go.wp_at_succ

theorem RPut_any : ∀ P : List Nat, RPutOk P
  | [] => rput_nil
  | i :: p => rput_cons i p (RPut_any p)

theorem results_cell1 {fn : Func} {p : Tmp} {ty : TypeId} (h : fn.results = #[.cell p ty]) (tmps : Array Value) (P : Program) (w : World) :
    (results fn tmps).run P w = ((asAddr (tmps.getD p undef)).run P w).andThen fun a w₁ => (loadVar ty a).run P w₁ := by
  simp only [results, h]
  simp [Sem.run_bind, Result.andThen]
/-- the result in a cell block -/
theorem ret_rb {f : Func} {p : Tmp} (h : f.results = #[.cell p 60]) {a : Act} {w : World} {g : Nat} {v0 v1 : Value} {R : Ending → World → Prop} (hp : a.tmps.getD p undef = .pointer (some ⟨g, 0, none⟩)) (hd : a.defers = [])
    (hg : w.heap[g]? = some (.cells #[v0, v1] 60 (0, 0))) (hR : R (.returned (.agg #[v0, v1])) w) : bodyPost Try.prog f R .ret a w := by
  have hc := fun j => Lib.cell_of_heap hg j
  have c0 := hc 0
  have c1 := hc 1
  simp only [List.getElem?_toArray, List.getElem?_cons_zero, List.getElem?_cons_succ] at c0 c1
  refine bodyPost_ret (v := .agg #[v0, v1]) ?_ hd hR
  rw [results_cell1 h, hp]
  go_simp
theorem rb_stored {w : World} {g : Nat} {a b : Value} {T : TypeId} (h : w.heap[g]? = some (.cells #[a, b] T (0, 0))) (v0 v1 : Value) :
    ((w.setCell ⟨g, 0, none⟩ v0).setCell ⟨g, 1, none⟩ v1).heap[g]? = some (.cells #[v0, v1] T (0, 0)) := by
  have h0 := heap_setCell_same w g 0 _ _ v0 h
  have h1 := heap_setCell_same _ g 1 _ _ v1 h0
  simpa using h1

theorem infoIn : (Try.prog.info? 3).map (fun i => (i.zero, i.size, i.bytes)) = some (some (.int .i64 0), 1, 8) := by kernel_rfl
theorem rowIn : Row Try.prog 58 3 1 8 := by
  obtain ⟨i, hi, hz, h1, h2⟩ := info_parts infoIn
  exact ⟨Try.underlying58, ⟨i, _, hi, hz, h1, h2, rfl⟩, by decide⟩
theorem intsOf_one (P : List Nat) : ∀ u ∈ intsOf P, u.oneCell' = true := by
  intro u hu
  obtain ⟨i, _, rfl⟩ := List.mem_map.1 hu
  rfl
theorem intsOf_take (P : List Nat) (n : Nat) : intsOf (P.take n) = (intsOf P).take n := by simp [intsOf]
theorem intsOf_append (P Q : List Nat) : intsOf (P ++ Q) = intsOf P ++ intsOf Q := by simp [intsOf]

/-- the reference's state in memory -/
def RbIs (w : World) (B : Nat) (b : RB) (A AP : Option Addr) (c cP : Nat) : Prop := Nodes w B A b.L.length b.L ∧ b.L.length ≤ c ∧ Rd w B 1 AP b.P.length (intsOf b.P) ∧ b.P.length ≤ cP
theorem RbIs.below {w w' : World} {B : Nat} {b : RB} {A AP : Option Addr} {c cP : Nat} (h : RbIs w B b A AP c cP) (hb : Below B w w') : RbIs w' B b A AP c cP := ⟨h.1.below hb, h.2.1, Rd.below (B := B) h.2.2.1 hb, h.2.2.2⟩
theorem RbIs.more {w : World} {B B' : Nat} {b : RB} {A AP : Option Addr} {c cP : Nat} (h : RbIs w B b A AP c cP) (hb : B ≤ B') : RbIs w B' b A AP c cP := ⟨h.1.more hb, h.2.1, Rd.more (B := B) h.2.2.1 hb, h.2.2.2⟩
/-- .. as a result -/
def RbOut (w' : World) (b : RB) (e : Ending) : Prop := ∃ A AP c cP, e = .returned (.agg #[.slice A b.L.length c, .slice AP b.P.length cP]) ∧ RbIs w' w'.heap.size b A AP c cP

theorem far_set {W : World} {g q o : Nat} {v0 v1 : Value} (h : q ≠ g) : ((W.setCell ⟨g, 0, none⟩ v0).setCell ⟨g, 1, none⟩ v1).cell? ⟨q, o, none⟩ = W.cell? ⟨q, o, none⟩ :=
  World.cell?_of_block (a := ⟨q, o, none⟩) (by rw [heap_setCell_other (p := ⟨g, 1, none⟩) h, heap_setCell_other (p := ⟨g, 0, none⟩) h])
theorem rb_end {w W5 W7 : World} {n : List Nd} {P : List Nat} {A6 A7 : Option Addr} {c6 c7 : Nat} (hn : NodesP W7 (OldNew w.heap.size W5 W7) A6 n.length n) (hP : RdP W7 (OldNew w.heap.size W5 W7) 1 A7 P.length (intsOf P)) (h6 : n.length ≤ c6) (h7 : P.length ≤ c7) (hs : w.heap.size + 3 ≤ W5.heap.size) (h57 : W5.heap.size ≤ W7.heap.size) (v0 v1 : Value) :
    RbOut ((W7.setCell ⟨w.heap.size + 1 + 1, 0, none⟩ v0).setCell ⟨w.heap.size + 1 + 1, 1, none⟩ v1) ⟨n, P⟩ (.returned (.agg #[.slice A6 n.length c6, .slice A7 P.length c7])) := by
  have hk : ∀ p : Addr, OldNew w.heap.size W5 W7 p.block → ((W7.setCell ⟨w.heap.size + 1 + 1, 0, none⟩ v0).setCell ⟨w.heap.size + 1 + 1, 1, none⟩ v1).cell? p = W7.cell? p := fun p hp => World.cell?_of_block (by
    have hne : p.block ≠ w.heap.size + 1 + 1 := by rcases hp with hp | hp <;> omega
    rw [heap_setCell_other (p := ⟨w.heap.size + 1 + 1, 1, none⟩) hne, heap_setCell_other (p := ⟨w.heap.size + 1 + 1, 0, none⟩) hne])
  have hlt : ∀ q, OldNew w.heap.size W5 W7 q → q < ((W7.setCell ⟨w.heap.size + 1 + 1, 0, none⟩ v0).setCell ⟨w.heap.size + 1 + 1, 1, none⟩ v1).heap.size := fun q hq => by rw [size_set, size_set]; rcases hq with hq | hq <;> omega
  exact ⟨A6, A7, c6, c7, rfl, (hn.keep hk).lt hlt, h6, (hP.keep hk).more hlt, h7⟩

set_option maxHeartbeats 2000000 in
set_option maxRecDepth 100000 in
theorem rPutT_any {w : World} {b : RB} {k : Nat} (hb : RbOk b k) (hk : k ≤ 40) {t : Tk} (ht : TkOk t) {A AP An : Option Addr} {c cP cn : Nat} (hB : RbIs w w.heap.size b A AP c cP) (hA : Atrs w w.heap.size An t.attrs.length t.attrs) (hcn : t.attrs.length ≤ cn) :
    Calls Try.prog 17 #[.agg #[.slice A b.L.length c, .slice AP b.P.length cP], .agg #[.int .i64 t.kind, .string ⟨t.name.toArray⟩, .slice An t.attrs.length cn, .string ⟨t.text.toArray⟩]] w fun e w' => RbOut w' (rPutT b t) e ∧ Below w.heap.size w w' := by
  have hpo := hb.path
  have hwt := hb.wt
  obtain ⟨_, hPk, htb⟩ := hb
  obtain ⟨hkd, htn, htt, hta⟩ := ht
  obtain ⟨hN, hc, hP, hcP⟩ := hB
  obtain ⟨W3, hW3⟩ : ∃ W3, W3 = ((w.alloc (.cells #[.slice A b.L.length c, .slice AP b.P.length cP] 60)).alloc (.cells #[.int .i64 t.kind, .string ⟨t.name.toArray⟩, .slice An t.attrs.length cn, .string ⟨t.text.toArray⟩] 29)).alloc (.cells #[.slice none 0 0, .slice none 0 0] 60) := ⟨_, rfl⟩
  have s3 : W3.heap.size = w.heap.size + 3 := by rw [hW3]; simp
  have b3 : Below w.heap.size w W3 := by rw [hW3]; exact (((Below.refl _ w).alloc (Nat.le_refl _) _).alloc (by simp) _).alloc (by simp; omega) _
  have q2 : W3.heap[w.heap.size + 1 + 1]? = some (.cells #[.slice none 0 0, .slice none 0 0] 60 (0, 0)) := by
    rw [hW3]
    have := heap_alloc_new ((w.alloc (.cells #[.slice A b.L.length c, .slice AP b.P.length cP] 60)).alloc (.cells #[.int .i64 t.kind, .string ⟨t.name.toArray⟩, .slice An t.attrs.length cn, .string ⟨t.text.toArray⟩] 29)) (.cells #[.slice none 0 0, .slice none 0 0] 60)
    rw [World.size_alloc, World.size_alloc] at this
    exact this
  have q1 : W3.heap[w.heap.size + 1]? = some (.cells #[.int .i64 t.kind, .string ⟨t.name.toArray⟩, .slice An t.attrs.length cn, .string ⟨t.text.toArray⟩] 29 (0, 0)) := by
    rw [hW3, Below.heap_alloc _ _ _ (by simp)]
    have := heap_alloc_new (w.alloc (.cells #[.slice A b.L.length c, .slice AP b.P.length cP] 60)) (.cells #[.int .i64 t.kind, .string ⟨t.name.toArray⟩, .slice An t.attrs.length cn, .string ⟨t.text.toArray⟩] 29)
    rw [World.size_alloc] at this
    exact this
  have q0 : W3.heap[w.heap.size]? = some (.cells #[.slice A b.L.length c, .slice AP b.P.length cP] 60 (0, 0)) := by
    rw [hW3, Below.heap_alloc _ _ _ (by simp; omega), Below.heap_alloc _ _ _ (by simp)]
    exact heap_alloc_new _ _
  have HQ : ∀ W', Below W3.heap.size W3 W' → W'.heap[w.heap.size]? = some (.cells #[.slice A b.L.length c, .slice AP b.P.length cP] 60 (0, 0)) ∧ W'.heap[w.heap.size + 1]? = some (.cells #[.int .i64 t.kind, .string ⟨t.name.toArray⟩, .slice An t.attrs.length cn, .string ⟨t.text.toArray⟩] 29 (0, 0)) ∧
      W'.heap[w.heap.size + 1 + 1]? = some (.cells #[.slice none 0 0, .slice none 0 0] 60 (0, 0)) := fun W' h => ⟨(h.block _ (by omega)).trans q0, (h.block _ (by omega)).trans q1, (h.block _ (by omega)).trans q2⟩
  have HQ := Lib.hid HQ
  have hopl := rOpen_length b.P b.L
  go_enter Try.func17, Try.ntmps17
  go_wp2_with fail
  rw [← hW3]
  clear q0 q1 q2
  refine (rOpen_any (w := W3) ((hN.below b3).more b3.size) hc (Rd.more (B := w.heap.size) (Rd.below (B := w.heap.size) hP b3) b3.size) (by omega) hpo).mono ?_
  rintro e W4 ⟨AO, cO, rfl, hcO, hO, bO⟩
  obtain ⟨q0, q1, q2⟩ := HQ.out W4 bO
  have hos : (rOpen b.L b.P).length = b.P.length := hopl
  obtain ⟨os, hoe⟩ : ∃ os, os = rOpen b.L b.P := ⟨_, rfl⟩
  rw [← hoe] at hO hos
  have HOE := Lib.hid hoe
  have HOS := Lib.hid hos
  have HW3 := Lib.hid hW3
  have s4 := bO.size
  clear hoe hopl hos hW3
  have x0 := Lib.cell_of_heap q1 0
  simp only [List.getElem?_toArray, List.getElem?_cons_zero, List.getElem?_cons_succ] at x0
  have B4 : Below w.heap.size w W4 := b3.trans (bO.mono b3.size)
  have HB4 := Lib.hid B4
  have HBO := Lib.hid bO
  have HO := Lib.hid hO
  have HN := Lib.hid hN
  have HP := Lib.hid hP
  have HA := Lib.hid hA
  have HPO := Lib.hid hpo
  have HTB := Lib.hid htb
  clear B4 hO hN hP hA bO hpo htb b3
  by_cases k1 : t.kind = 1
  · have HK1 := Lib.hid k1
    rw [k1] at x0
    clear k1
    go_wp2_with fail
    go_loopw [6] (fun nv wr => ∃ j : Nat, nv = .int .i64 j ∧ j ≤ b.P.length ∧ Hid (rStay t.name (os.take j).reverse = rStay t.name os.reverse) ∧ Below W4.heap.size W4 wr) (fun nv _ => (intOf nv).toNat)
    case atStart => exact ⟨b.P.length, rfl, Nat.le_refl _, by rw [List.take_of_length_le (by rw [HOS.out]; exact Nat.le_refl _)]; rfl, Below.refl _ _⟩
    case round =>
      obtain ⟨j, rfl, hj, hst, hw⟩ := hrel
      have hws := hw.size
      have htk1 : ∀ w', Below wr.heap.size wr w' → w'.cell? ⟨w.heap.size + 1, 1, none⟩ = some (.string ⟨t.name.toArray⟩) := fun w' hw' => (hw'.cell (p := ⟨w.heap.size + 1, 1, none⟩) (by simp only []; omega)).trans ((hw.cell (p := ⟨w.heap.size + 1, 1, none⟩) (by simp only []; omega)).trans (by rw [Lib.cell_of_heap q1]; rfl))
      clear x0 q0 q1 q2
      obtain ⟨cl, hcl⟩ : ∃ cl, cl = (match os.take j |>.reverse with | [] => false | a :: _ => closesL a t.name) := ⟨_, rfl⟩
      have HCL := Lib.hid hcl
      clear hcl
      go_upto_region 5 with fail
      go_cut [32] (fun s32 wx => s32 = .bool cl ∧ Below wr.heap.size wr wx)
      case first =>
        by_cases hj0 : j = 0
        · subst hj0
          have hcl : cl = false := by rw [HCL.out]; rfl
          subst hcl
          go_region
          all_goals
            go_wp2_with fail
            go_meet
            exact ⟨rfl, below_drewN (Below.refl _ _) _⟩
        · obtain ⟨n, hnj⟩ : ∃ n, j = n + 1 := ⟨j - 1, by omega⟩
          have hno : n < os.length := by rw [HOS.out]; omega
          have hrv : (os.take j).reverse = os[n] :: (os.take n).reverse := by rw [hnj, List.take_succ_eq_append_getElem hno, List.reverse_append]; rfl
          have hcl : closesL os[n] t.name = cl := by rw [HCL.out, hrv]
          obtain ⟨a, u, rfl, hab, hu, hca⟩ := HO.out.at_ (k := n) (by omega)
          have hu2 : u = .string ⟨os[n].toArray⟩ := by
            rw [List.getElem?_map, List.getElem?_eq_getElem hno] at hu
            injection hu with hu
            exact hu.symm
          subst hu2
          generalize os[n] = nm at *
          have HC := Lib.hid hcl
          have hi1 : (0 : Int) < (j : Int) := by omega
          have hi0 : 0 < j := by omega
          have hi2 : IntKind.i64.wrap ((j : Int) - 1) = (n : Int) := by rw [IntWalk.i64_in _ (by omega)]; omega
          have hi3 : (0 : Int) ≤ (n : Int) := by omega
          have hi4 : (n : Int) < (b.P.length : Int) := by omega
          have p2 : ∀ w', Below wr.heap.size wr w' → w'.cell? (a.add n) = some (.string ⟨nm.toArray⟩) := fun w' hw' => (hw'.cell (p := a.add n) (by rw [block_add]; omega)).trans ((hw.cell (p := a.add n) (by rw [block_add]; exact hab)).trans hca)
          have hbel := Below.refl wr.heap.size wr
          clear hcl hca hu hrv hnj hno hst hj0
          go_region_held3 (fun w' => Below wr.heap.size wr w')
            (first
              | exact hbel
              | go_keep
              | (exact Below.drew (by assumption))
              | (exact Below.trans (by assumption) (Below.mono (by assumption) (Below.size (by assumption)))))
            (first
              | (go_at_call 20; refine (rCloses_any nm t.name _).mono ?_; rintro e W2 ⟨rfl, b2⟩))
          all_goals
            rename Below wr.heap.size wr _ => b7
            rw [HC.out]
            go_wp2_with fail
            go_meet
            exact ⟨rfl, b7⟩
      case rest =>
        obtain ⟨rfl, b2⟩ := hcut
        cases cl with
        | true =>
          obtain ⟨n, hnj⟩ : ∃ n, j = n + 1 := by
            cases j with
            | zero => have := HCL.out; simp at this
            | succ n => exact ⟨n, rfl⟩
          have hno : n < os.length := by rw [HOS.out]; omega
          have hrv : (os.take j).reverse = os[n] :: (os.take n).reverse := by rw [hnj, List.take_succ_eq_append_getElem hno, List.reverse_append]; rfl
          have hcl : closesL os[n] t.name = true := by rw [HCL.out, hrv]
          have HST := Lib.hid (show rStay t.name (os.take n).reverse = rStay t.name os.reverse by rw [← hst.out, hrv, rStay, if_pos hcl])
          have hj1 : (1 : Int) ≤ (j : Int) := by omega
          have HNJ := Lib.hid hnj
          have hj2 := Int.ofNat_le.2 hj
          clear hnj hrv hcl hst hno htk1
          go_wp2
          go_roundw
          case rel => exact ⟨n, by rw [HNJ.out]; go_num, by have := HNJ.out; omega, HST.out, hw.trans (b2.mono hws)⟩
          case measure => have := HNJ.out; simp [intOf]; omega
        | false =>
          have hsj : rStay t.name os.reverse = j := by
            rw [← hst.out]
            rcases Nat.eq_zero_or_pos j with h0 | h0
            · subst h0; rfl
            · obtain ⟨n, hnj⟩ : ∃ n, j = n + 1 := ⟨j - 1, by omega⟩
              have hno : n < os.length := by rw [HOS.out]; omega
              have hrv : (os.take j).reverse = os[n] :: (os.take n).reverse := by rw [hnj, List.take_succ_eq_append_getElem hno, List.reverse_append]; rfl
              have hcl : closesL os[n] t.name = false := by rw [HCL.out, hrv]
              rw [hrv, rStay, if_neg (by simp [hcl]), List.length_reverse, List.length_take]
              omega
          obtain ⟨p, hp⟩ : ∃ p, p = b.P.take j := ⟨_, rfl⟩
          have hpl : p.length = j := by rw [hp, List.length_take]; omega
          have HRES := Lib.hid (show rPutT b t = ⟨rPut b.L p (.mk 1 t.name t.attrs [] []), p ++ (if voidL t.name then [] else [rCount b.L p])⟩ by
            unfold rPutT
            simp only
            rw [if_pos HK1.out, ← HOE.out, hsj, ← hp])
          have hPp : Rd w w.heap.size 1 AP p.length (intsOf p) := by
            have := Rd.take HP.out hj
            rw [Nat.mul_one, ← intsOf_take, ← hp] at this
            rw [hpl]; exact this
          have hpop : PathOk b.L p := by rw [hp]; exact PathOk_take _ _ _ HPO.out
          have hjc : p.length ≤ cP := by omega
          have hpk : p.length ≤ 1000 := by omega
          subst hpl
          have B5 := hw.trans (b2.mono hws)
          rename World => W5
          have HB35 := Lib.hid (HBO.out.trans (B5.mono s4))
          obtain ⟨q0, q1, q2⟩ := HQ.out W5 HB35.out
          have BW5 := HB4.out.trans (B5.mono HB4.out.size)
          have hsw5 : w.heap.size + 3 ≤ W5.heap.size := by have := B5.size; omega
          have x0 := Lib.cell_of_heap q0 0
          have x1 := Lib.cell_of_heap q0 1
          have y1 := Lib.cell_of_heap q1 1
          have y2 := Lib.cell_of_heap q1 2
          simp only [List.getElem?_toArray, List.getElem?_cons_zero, List.getElem?_cons_succ] at x0 x1 y1 y2
          have HCNT := Lib.hid (count_any (w := W5) (cP := cP) ((HN.out.below BW5).more BW5.size) hc (Rd.more (B := w.heap.size) (Rd.below (B := w.heap.size) hPp BW5) BW5.size) hpk hpop)
          have HPUT := Lib.hid (RPut_any p W5 w.heap.size A AP An c cP cn b.L 1 t.name [] t.attrs BW5.size (HN.out.below BW5) hc (Rd.below (B := w.heap.size) hPp BW5) hjc hpk hpop (by omega) (txBL_more (by omega) HTB.out) (Nat.zero_le _) (Rd.below (B := w.heap.size) HA.out BW5) hcn)
          have HPP := Lib.hid hPp
          have HW5 := Lib.hid BW5
          obtain ⟨n, hn⟩ : ∃ n, n = rPut b.L p (.mk 1 t.name t.attrs [] []) := ⟨_, rfl⟩
          rw [← hn] at HPUT HRES
          have HNW := Lib.hid hn
          have hpj := Int.ofNat_le.2 hj
          clear q0 q1 q2 hPp hpop hw b2 hst htk1 hsj hp HCL BW5 B5 hn HPO HTB
          go_wp2_with fail
          refine HCNT.out.mono ?_
          rintro e W5 ⟨rfl, rfl⟩
          go_wp2_with fail
          refine HPUT.out.mono ?_
          rintro e W6 ⟨A6, c6, rfl, h6, hn6, b6⟩
          have hs6 := b6.size
          have B6 := HW5.out.trans (b6.mono HW5.out.size)
          have hP6 : Rd W6 W6.heap.size 1 AP p.length (intsOf p) := Rd.more (B := w.heap.size) (Rd.below (B := w.heap.size) HPP.out B6) B6.size
          have hN6 := Lib.hid hn6
          have hsw := HW5.out.size
          clear hn6
          go_upto_region 12 with (at_builtin; go_must (refine wpList_copy rfl _ _ _ rfl W6.heap.size rowIn rfl W6.heap.size AP p.length cP (intsOf p) rfl hP6 (intsOf_one p) (by unfold maxLen; omega) (by omega) (Nat.le_refl _) ?_))
          intro A7 c7 W7 hc7 ho7 b7 hat7
          have B7 := B6.trans (b7.mono B6.size)
          have hs7 := b7.size
          have HB37 := Lib.hid (HB35.out.trans ((b6.trans (b7.mono b6.size)).mono HB35.out.size))
          obtain ⟨q0, q1, q2⟩ := HQ.out W7 HB37.out
          have y1 := Lib.cell_of_heap q1 1
          have z0 := Lib.cell_of_heap q2 0
          have z1 := Lib.cell_of_heap q2 1
          have f0 := Lib.frozen_of_heap q2 0
          have f1 := Lib.frozen_of_heap q2 1
          simp only [List.getElem?_toArray, List.getElem?_cons_zero, List.getElem?_cons_succ] at y1 z0 z1
          have HB7 := Lib.hid B7
          have HO7 := Lib.hid ho7
          have HN7 := Lib.hid (fun w' (h : Below W6.heap.size W7 w') => (hN6.out.keep (w' := w') fun q hq => (b7.trans h).cell (by rcases hq with hq | hq <;> omega)).more (S' := OldNew w.heap.size W5 w') fun q hq => by
            have := h.size
            rcases hq with hq | hq
            · exact .inl hq
            · exact .inr ⟨hq.1, by omega⟩)
          clear ho7 hat7 b7 b6 hN6 hP6 B6 B7 x0 x1 y2 q0 q1 q2
          go_wp2_with fail
          refine (rVoid_any t.name _).mono ?_
          rintro e W7 ⟨rfl, rfl⟩
          cases hv : voidL t.name with
          | true =>
            have HR := Lib.hid (show rPutT b t = ⟨n, p⟩ by rw [HRES.out, hv]; simp)
            have HST := Lib.hid (rb_stored (HQ.out W7 HB37.out).2.2 (.slice A6 n.length c6) (.slice A7 p.length c7))
            clear hv
            go_wp2
            have hEND := rb_end (w := w) (HN7.out W7 (Below.refl _ _)) (RdP.more (RdP.of_own HO7.out) fun q hq => .inr ⟨by omega, hq.2⟩) h6 hc7 hsw5 (by omega) (.slice A6 n.length c6) (.slice A7 p.length c7)
            refine ret_rb rfl rfl rfl HST.out ⟨?_, (HB7.out.setCell (p := ⟨w.heap.size + 1 + 1, 0, none⟩) (by simp only []; omega) _).setCell (p := ⟨w.heap.size + 1 + 1, 1, none⟩) (by simp only []; omega) _⟩
            rw [HR.out]
            exact hEND
          | false =>
            have HR := Lib.hid (show rPutT b t = ⟨n, p ++ [rCount b.L p]⟩ by rw [HRES.out, hv]; simp)
            clear hv
            go_upto_region 15 with (at_builtin; go_must (refine wpList_push_at rfl _ _ _ rfl W6.heap.size rowIn A7 p.length c7 _ rfl HO7.out [.int .i64 (rCount b.L p)] _ rfl rfl (by simp [Value.oneCell']) (by unfold maxLen; omega) (by omega) hs7 ?_))
            intro A8 c8 W8 hc8 ho8 hg8 hat8
            have b8 : Below W6.heap.size W7 W8 := (Below.refl _ W7).grown hg8 hs7 (own_ge HO7.out)
            have hs8 := b8.size
            have hs36 : W3.heap.size ≤ W6.heap.size := by have := HB35.out.size; omega
            have HB38 := Lib.hid (HB37.out.trans (b8.mono hs36))
            have HB8 := Lib.hid (HB7.out.trans (b8.mono (by omega)))
            obtain ⟨q0, q1, q2⟩ := HQ.out W8 HB38.out
            have z0 := Lib.cell_of_heap q2 0
            have z1 := Lib.cell_of_heap q2 1
            have f0 := Lib.frozen_of_heap q2 0
            have f1 := Lib.frozen_of_heap q2 1
            simp only [List.getElem?_toArray, List.getElem?_cons_zero, List.getElem?_cons_succ] at z0 z1
            have HN8 := Lib.hid (HN7.out W8 b8)
            have ho8' : W8.ownsRow W6.heap.size 3 1 (.slice A8 (p ++ [rCount b.L p]).length c8) (p ++ [rCount b.L p]).length (intsOf (p ++ [rCount b.L p])) := by
              rw [intsOf_append, List.length_append]
              exact ho8
            have hc8' : (p ++ [rCount b.L p]).length ≤ c8 := by rw [List.length_append]; exact hc8
            have hpl8 : p.length + 1 = (p ++ [rCount b.L p]).length := by rw [List.length_append]; rfl
            rw [hpl8]
            obtain ⟨p2, hp2⟩ : ∃ p2, p2 = p ++ [rCount b.L p] := ⟨_, rfl⟩
            rw [← hp2] at ho8' hc8' HR ⊢
            have HO8 := Lib.hid ho8'
            have HST := Lib.hid (rb_stored (HQ.out W8 HB38.out).2.2 (.slice A6 n.length c6) (.slice A8 p2.length c8))
            clear hg8 hat8 ho8 b8 q0 q1 q2 ho8' hp2 hpl8 y1
            go_wp2
            have hEND := rb_end (w := w) HN8.out (RdP.more (RdP.of_own HO8.out) fun q hq => .inr ⟨by omega, hq.2⟩) h6 hc8' hsw5 (by omega) (.slice A6 n.length c6) (.slice A8 p2.length c8)
            refine ret_rb rfl rfl rfl HST.out ⟨?_, (HB8.out.setCell (p := ⟨w.heap.size + 1 + 1, 0, none⟩) (by simp only []; omega) _).setCell (p := ⟨w.heap.size + 1 + 1, 1, none⟩) (by simp only []; omega) _⟩
            rw [HR.out]
            exact hEND
  · have HK1 := Lib.hid k1
    have hk1 : (t.kind == 1) = false := by simp [k1]
    have HX0 := Lib.hid x0
    have hcell : ∀ W', Below W4.heap.size W4 W' → W'.cell? ⟨w.heap.size, 0, none⟩ = some (.slice A b.L.length c) ∧ W'.cell? ⟨w.heap.size, 1, none⟩ = some (.slice AP b.P.length cP) ∧ W'.cell? ⟨w.heap.size + 1, 1, none⟩ = some (.string ⟨t.name.toArray⟩) ∧ W'.cell? ⟨w.heap.size + 1, 3, none⟩ = some (.string ⟨t.text.toArray⟩) ∧
        W'.cell? ⟨w.heap.size + 1 + 1, 0, none⟩ = some (.slice none 0 0) ∧ W'.cell? ⟨w.heap.size + 1 + 1, 1, none⟩ = some (.slice none 0 0) ∧ W'.frozen? ⟨w.heap.size + 1 + 1, 0, none⟩ = false ∧ W'.frozen? ⟨w.heap.size + 1 + 1, 1, none⟩ = false := by
      intro W' h
      obtain ⟨q0, q1, q2⟩ := HQ.out W' (HBO.out.trans (h.mono s4))
      exact ⟨Lib.cell_of_heap q0 0, Lib.cell_of_heap q0 1, Lib.cell_of_heap q1 1, Lib.cell_of_heap q1 3, Lib.cell_of_heap q2 0, Lib.cell_of_heap q2 1, Lib.frozen_of_heap q2 0, Lib.frozen_of_heap q2 1⟩
    have HC := Lib.hid hcell
    clear q0 q1 q2 hcell k1
    by_cases k2 : t.kind = 2
    · have HK2 := Lib.hid k2
      rw [k2] at x0
      clear k2 hk1
      go_wp2_with fail
      go_loopw [12] (fun iv wr => ∃ i : Int, iv = .int .i64 i ∧ -1 ≤ i ∧ i < b.P.length ∧ Hid (rFind t.name (os.take (i + 1).toNat).reverse = rFind t.name os.reverse) ∧ Below W4.heap.size W4 wr) (fun iv _ => (intOf iv + 1).toNat)
      case atStart => exact ⟨(b.P.length : Int) - 1, rfl, by omega, by omega, by rw [List.take_of_length_le (by rw [HOS.out]; omega)]; rfl, Below.refl _ _⟩
      case round =>
        obtain ⟨i, rfl, hi, hil, hst, hw⟩ := hrel
        clear x0
        by_cases hi0 : i < 0
        · obtain rfl : i = -1 := by omega
          have hf : rFind t.name os.reverse = none := by rw [← hst.out]; rfl
          have HRES := Lib.hid (show rPutT b t = b by
            unfold rPutT
            simp only
            rw [if_neg HK1.out, if_pos HK2.out, ← HOE.out, hf])
          obtain ⟨c0, c1, _, _, c4, c5, f0, f1⟩ := HC.out wr hw
          have BW := HB4.out.trans (hw.mono HB4.out.size)
          have hsw := hw.size
          have HST := Lib.hid (rb_stored (HQ.out wr (HBO.out.trans (hw.mono s4))).2.2 (.slice A b.L.length c) (.slice AP b.P.length cP))
          have HBW := Lib.hid BW
          have hEND := Lib.hid (rb_end (w := w) (W5 := wr) (W7 := wr) (NodesP.more (HN.out.below BW) (fun q hq => .inl hq)) (RdP.more (show RdP wr (fun q => q < w.heap.size) 1 AP b.P.length (intsOf b.P) from Rd.below (B := w.heap.size) HP.out BW) (fun q hq => .inl hq)) hc hcP (by omega) (Nat.le_refl _) (.slice A b.L.length c) (.slice AP b.P.length cP))
          clear hst hf BW hw
          go_wp2
          refine ret_rb rfl rfl rfl HST.out ⟨?_, (HBW.out.setCell (p := ⟨w.heap.size + 1 + 1, 0, none⟩) (by simp only []; omega) _).setCell (p := ⟨w.heap.size + 1 + 1, 1, none⟩) (by simp only []; omega) _⟩
          rw [HRES.out]
          exact hEND.out
        · obtain ⟨n, rfl⟩ : ∃ n : Nat, i = (n : Int) := ⟨i.toNat, by omega⟩
          have hn : n < b.P.length := by omega
          have hno : n < os.length := by rw [HOS.out]; exact hn
          obtain ⟨cl, hcl⟩ : ∃ cl, cl = (os[n] == t.name) := ⟨_, rfl⟩
          have HRV := Lib.hid (show (os.take (n + 1)).reverse = os[n] :: (os.take n).reverse by rw [List.take_succ_eq_append_getElem hno, List.reverse_append]; rfl)
          obtain ⟨a, u, rfl, hab, hu, hca⟩ := HO.out.at_ (k := n) hn
          have hu2 : u = .string ⟨os[n].toArray⟩ := by
            rw [List.getElem?_map, List.getElem?_eq_getElem hno] at hu
            injection hu with hu
            exact hu.symm
          subst hu2
          have hcw := (hw.cell (p := a.add n) (by rw [block_add]; exact hab)).trans hca
          obtain ⟨c0, c1, c2, _, c4, c5, f0, f1⟩ := HC.out wr hw
          generalize os[n] = nm at *
          have HCL := Lib.hid hcl
          have HST0 := Lib.hid hst.out
          have hws := hw.size
          clear hca hu hst hno hi0
          go_upto_region 20 with fail
          go_cut [81] (fun s wx => s = .bool cl ∧ ∃ d, wx = wr.drewN d)
          case first =>
            clear hcl
            go_region
            all_goals
              go_wp2_with fail
              go_meet
              exact ⟨by rw [HCL.out], _, rfl⟩
          case rest =>
            obtain ⟨rfl, d, rfl⟩ := hcut
            cases cl with
            | true =>
              have hnm : nm = t.name := by simpa using hcl.symm
              have hf : rFind t.name os.reverse = some n := by
                rw [← HST0.out, show ((n : Int) + 1).toNat = n + 1 by omega, HRV.out, rFind, if_pos hnm, List.length_reverse, List.length_take, HOS.out]
                congr 1
                omega
              have HRES := Lib.hid (show rPutT b t = ⟨b.L, b.P.take n⟩ by
                unfold rPutT
                simp only
                rw [if_neg HK1.out, if_pos HK2.out, ← HOE.out, hf])
              have hncP : n ≤ cP := by omega
              have hPn : RdP w (fun q => q < w.heap.size) 1 AP (b.P.take n).length (intsOf (b.P.take n)) := by
                have := Rd.take HP.out (Nat.le_of_lt hn)
                rw [Nat.mul_one, ← intsOf_take] at this
                rw [List.length_take, Nat.min_eq_left (Nat.le_of_lt hn)]
                exact this
              have hnl : (b.P.take n).length = n := by rw [List.length_take]; omega
              have BW := HB4.out.trans (hw.mono HB4.out.size)
              have HW := Lib.hid hw
              have HPN := Lib.hid hPn
              have HNL := Lib.hid hnl
              clear hcl hnm hf hPn hnl hw hcw hab
              go_wp2
              go_region
              have hwd : Below W4.heap.size W4 (wr.drewN (d + 1)) := HW.out.trans (below_drewN (Below.refl _ _) _)
              have BW := HB4.out.trans (hwd.mono HB4.out.size)
              have hsw : w.heap.size + 3 ≤ (wr.drewN (d + 1)).heap.size := by have := hwd.size; omega
              have HST := Lib.hid (rb_stored (HQ.out (wr.drewN (d + 1)) (HBO.out.trans (hwd.mono s4))).2.2 (.slice A b.L.length c) (.slice AP n cP))
              have HBW := Lib.hid BW
              have hEND := Lib.hid (rb_end (w := w) (W5 := wr.drewN (d + 1)) (W7 := wr.drewN (d + 1)) (P := b.P.take n) (c7 := cP) (NodesP.more (HN.out.below BW) (fun q hq => .inl hq)) (RdP.more (HPN.out.keep fun p hp => BW.cell hp) (fun q hq => .inl hq)) hc (by rw [HNL.out]; exact hncP) hsw (Nat.le_refl _) (.slice A b.L.length c) (.slice AP n cP))
              clear BW hwd
              go_wp2
              refine ret_rb rfl rfl rfl HST.out ⟨?_, (HBW.out.setCell (p := ⟨w.heap.size + 1 + 1, 0, none⟩) (by simp only []; omega) _).setCell (p := ⟨w.heap.size + 1 + 1, 1, none⟩) (by simp only []; omega) _⟩
              rw [HRES.out]
              have hE := hEND.out
              rw [HNL.out] at hE
              exact hE
            | false =>
              have hnm : ¬ nm = t.name := by simpa using hcl.symm
              have HST := Lib.hid (show rFind t.name (os.take n).reverse = rFind t.name os.reverse by
                rw [← HST0.out, show ((n : Int) + 1).toNat = n + 1 by omega, HRV.out, rFind, if_neg hnm])
              clear hcl hnm
              go_wp2
              go_roundw
              case rel => exact ⟨(n : Int) - 1, by go_num, by omega, by omega, by rw [show ((n : Int) - 1 + 1).toNat = n by omega]; exact HST.out, hw.trans (below_drewN (Below.refl _ _) _)⟩
              case measure => simp [intOf]
    · have HK2 := Lib.hid k2
      have hk2 : (t.kind == 2) = false := by simp [k2]
      clear k2
      by_cases k3 : t.kind = 3
      · have HK3 := Lib.hid k3
        rw [k3] at x0
        clear k3 hk1 hk2
        obtain ⟨c0, c1, _, c3, c4, c5, f0, f1⟩ := HC.out W4 (Below.refl _ _)
        have hBd : Below w.heap.size w W4.drew := Below.drew HB4.out
        have HPUT := Lib.hid (RPut_any b.P W4.drew w.heap.size A AP none c cP 0 b.L 2 [] t.text [] hBd.size (HN.out.below hBd) hc (Rd.below (B := w.heap.size) HP.out hBd) hcP (by omega) HPO.out (by omega) (txBL_more (by omega) HTB.out) (by omega) (Rd.nil _ _ _ _) (Nat.le_refl _))
        obtain ⟨n, hn⟩ : ∃ n, n = rPut b.L b.P (.mk 2 [] [] t.text []) := ⟨_, rfl⟩
        rw [← hn] at HPUT
        have HRES := Lib.hid (show rPutT b t = ⟨n, b.P⟩ by
          unfold rPutT
          simp only
          rw [if_neg HK1.out, if_neg HK2.out, if_pos HK3.out, ← hn])
        have HBD := Lib.hid hBd
        have HC2 := Lib.hid (fun W' (h : Below W4.drew.heap.size W4.drew W') => HC.out W' ((Below.drew (Below.refl _ W4)).trans h))
        clear hn hBd
        go_wp2
        go_region_held3 (fun w' => w'.cell? ⟨w.heap.size, 0, none⟩ = some (.slice A b.L.length c) ∧ w'.cell? ⟨w.heap.size, 1, none⟩ = some (.slice AP b.P.length cP) ∧ w'.cell? ⟨w.heap.size + 1, 3, none⟩ = some (.string ⟨t.text.toArray⟩))
          (first
            | exact ⟨c0, c1, c3⟩
            | exact ⟨d0, d1, d3⟩
            | exact ⟨(far_set (by omega)).trans (by assumption), (far_set (by omega)).trans (by assumption), (far_set (by omega)).trans (by assumption)⟩
            | go_keep)
          (first
            | (go_at_call 28; refine HPUT.out.mono ?_; rintro e W5 ⟨A6, c6, rfl, h6, hn6, b6⟩; obtain ⟨d0, d1, _, d3, d4, d5, g0, g1⟩ := HC2.out W5 b6))
        have hs6 : W4.heap.size ≤ W5.heap.size := b6.size
        have HB5 := Lib.hid (HBD.out.trans (b6.mono HBD.out.size))
        have HST := Lib.hid (rb_stored (HQ.out W5 (HBO.out.trans (((Below.drew (Below.refl _ W4)).trans b6).mono s4))).2.2 (.slice A6 n.length c6) (.slice AP b.P.length cP))
        have hEND := Lib.hid (rb_end (w := w) (W5 := W4) (W7 := W5) (hn6.more fun q hq => by rcases hq with hq | hq; exact .inl hq; exact .inr hq) (RdP.more (show RdP W5 (fun q => q < w.heap.size) 1 AP b.P.length (intsOf b.P) from Rd.below (B := w.heap.size) HP.out HB5.out) (fun q hq => .inl hq)) h6 hcP (by omega) hs6 (.slice A6 n.length c6) (.slice AP b.P.length cP))
        clear hn6 b6
        go_wp2
        refine ret_rb rfl rfl rfl HST.out ⟨?_, (HB5.out.setCell (p := ⟨w.heap.size + 1 + 1, 0, none⟩) (by simp only []; omega) _).setCell (p := ⟨w.heap.size + 1 + 1, 1, none⟩) (by simp only []; omega) _⟩
        rw [HRES.out]
        exact hEND.out
      · have HK3 := Lib.hid k3
        have hk3 : (t.kind == 3) = false := by simp [k3]
        clear k3
        by_cases k4 : t.kind = 4
        · have HK4 := Lib.hid k4
          rw [k4] at x0
          clear k4 hk1 hk2 hk3
          obtain ⟨c0, c1, _, c3, c4, c5, f0, f1⟩ := HC.out W4 (Below.refl _ _)
          have hBd : Below w.heap.size w W4.drew := Below.drew HB4.out
          have HPUT := Lib.hid (RPut_any b.P W4.drew w.heap.size A AP none c cP 0 b.L 3 [] t.text [] hBd.size (HN.out.below hBd) hc (Rd.below (B := w.heap.size) HP.out hBd) hcP (by omega) HPO.out (by omega) (txBL_more (by omega) HTB.out) (by omega) (Rd.nil _ _ _ _) (Nat.le_refl _))
          obtain ⟨n, hn⟩ : ∃ n, n = rPut b.L b.P (.mk 3 [] [] t.text []) := ⟨_, rfl⟩
          rw [← hn] at HPUT
          have HRES := Lib.hid (show rPutT b t = ⟨n, b.P⟩ by
            unfold rPutT
            simp only
            rw [if_neg HK1.out, if_neg HK2.out, if_neg HK3.out, if_pos HK4.out, ← hn])
          have HBD := Lib.hid hBd
          have HC2 := Lib.hid (fun W' (h : Below W4.drew.heap.size W4.drew W') => HC.out W' ((Below.drew (Below.refl _ W4)).trans h))
          clear hn hBd
          go_wp2
          go_region_held3 (fun w' => w'.cell? ⟨w.heap.size, 0, none⟩ = some (.slice A b.L.length c) ∧ w'.cell? ⟨w.heap.size, 1, none⟩ = some (.slice AP b.P.length cP) ∧ w'.cell? ⟨w.heap.size + 1, 3, none⟩ = some (.string ⟨t.text.toArray⟩))
            (first
              | exact ⟨c0, c1, c3⟩
              | exact ⟨d0, d1, d3⟩
              | exact ⟨(far_set (by omega)).trans (by assumption), (far_set (by omega)).trans (by assumption), (far_set (by omega)).trans (by assumption)⟩
              | go_keep)
            (first
              | (go_at_call 28; refine HPUT.out.mono ?_; rintro e W5 ⟨A6, c6, rfl, h6, hn6, b6⟩; obtain ⟨d0, d1, _, d3, d4, d5, g0, g1⟩ := HC2.out W5 b6))
          have hs6 : W4.heap.size ≤ W5.heap.size := b6.size
          have HB5 := Lib.hid (HBD.out.trans (b6.mono HBD.out.size))
          have HST := Lib.hid (rb_stored (HQ.out W5 (HBO.out.trans (((Below.drew (Below.refl _ W4)).trans b6).mono s4))).2.2 (.slice A6 n.length c6) (.slice AP b.P.length cP))
          have hEND := Lib.hid (rb_end (w := w) (W5 := W4) (W7 := W5) (hn6.more fun q hq => by rcases hq with hq | hq; exact .inl hq; exact .inr hq) (RdP.more (show RdP W5 (fun q => q < w.heap.size) 1 AP b.P.length (intsOf b.P) from Rd.below (B := w.heap.size) HP.out HB5.out) (fun q hq => .inl hq)) h6 hcP (by omega) hs6 (.slice A6 n.length c6) (.slice AP b.P.length cP))
          clear hn6 b6
          go_wp2
          refine ret_rb rfl rfl rfl HST.out ⟨?_, (HB5.out.setCell (p := ⟨w.heap.size + 1 + 1, 0, none⟩) (by simp only []; omega) _).setCell (p := ⟨w.heap.size + 1 + 1, 1, none⟩) (by simp only []; omega) _⟩
          rw [HRES.out]
          exact hEND.out
        · have hk4 : (t.kind == 4) = false := by simp [k4]
          have HRES := Lib.hid (show rPutT b t = b by
            unfold rPutT
            simp only
            rw [if_neg HK1.out, if_neg HK2.out, if_neg HK3.out, if_neg k4])
          obtain ⟨c0, c1, _, _, c4, c5, f0, f1⟩ := HC.out W4 (Below.refl _ _)
          have HST := Lib.hid (rb_stored (HQ.out W4 HBO.out).2.2 (.slice A b.L.length c) (.slice AP b.P.length cP))
          have hEND := Lib.hid (rb_end (w := w) (W5 := W4) (W7 := W4) (NodesP.more (HN.out.below HB4.out) (fun q hq => .inl hq)) (RdP.more (show RdP W4 (fun q => q < w.heap.size) 1 AP b.P.length (intsOf b.P) from Rd.below (B := w.heap.size) HP.out HB4.out) (fun q hq => .inl hq)) hc hcP (by omega) (Nat.le_refl _) (.slice A b.L.length c) (.slice AP b.P.length cP))
          clear k4
          go_wp2
          refine ret_rb rfl rfl rfl HST.out ⟨?_, (HB4.out.setCell (p := ⟨w.heap.size + 1 + 1, 0, none⟩) (by simp only []; omega) _).setCell (p := ⟨w.heap.size + 1 + 1, 1, none⟩) (by simp only []; omega) _⟩
          rw [HRES.out]
          exact hEND.out
end Go.Proofs.Ytlfkipilgdeemaa
