/- Accepts of the program; State, Accepts of the document. -/
import Derived.Test.YtbipdnnalhdoaaaHx
import Derived.Test.YtbipdnnalhdoaaaHs
namespace Go.Proofs.Ytbipdnnalhdoaaa
open Go.RowKit Go.Maps Go.WideMaps
attribute [local go_sem ↓] Go.wp_at_zero Go.wp_at_succ

/-- are trees accepted? -/
def accB (M : Mc) (l : List Tr) : Bool := stateI ((thrT M M.L 0 l).map (M.out M.L)) == 1
theorem accB_iff {M : Mc} {l : List Tr} : accB M l = true ↔ Acc M l := by
  unfold accB Acc
  cases h : thrT M M.L 0 l with
  | none => simp [stateI]
  | some s => simp [stateI]; omega
theorem ret_bool' {a b : Bool} (h : a = b) : Ending.returned (.bool a) = .returned (.bool b) := by rw [h]

set_option maxHeartbeats 1000000 in
set_option maxRecDepth 100000 in
theorem accepts_any {w : World} {h : Hd} {A B C K : Option Addr} {c c1 c2 kc m : Nat} {l : List Tr} (H : HdV w (fun b => b < w.heap.size) h A c B c1 C c2) (hO : HdOk h m) (hm : m ≤ 400) (HT : SlP w (fun b => b < w.heap.size) 2 K l.length (trsC l)) (hcp : Cap l.length kc) :
    Calls Try.prog 16 #[hdVal h A c B c1 C c2, .slice K l.length kc] w fun e w' => e = .returned (.bool (accB h.mc l)) ∧ Below w.heap.size w w' := by
  have hB0 := (Below.refl _ w).alloc (Nat.le_refl _) (.cells #[.int .i64 h.K, .slice A h.labs.length c, .slice B h.root.nx.length c1, .slice C h.root.out.length c2] 28)
  have hx0 := heap_alloc_new w (.cells #[.int .i64 h.K, .slice A h.labs.length c, .slice B h.root.nx.length c1, .slice C h.root.out.length c2] 28)
  have hr : h.side h.labs.length = h.root := Hd.side_ge (Nat.le_refl _)
  have hac : accB h.mc l = (stateI ((thrT h.mc h.labs.length 0 l).map (h.mc.out h.labs.length)) == 1) := rfl
  go_enter Try.func16, Try.ntmps16
  go_upto_region 1 with fail
  generalize w.alloc (.cells #[.int .i64 h.K, .slice A h.labs.length c, .slice B h.root.nx.length c1, .slice C h.root.out.length c2] 28) = W1 at *
  have x0 := Lib.cell_of_heap hx0 0
  have x1 := Lib.cell_of_heap hx0 1
  have x2 := Lib.cell_of_heap hx0 2
  have x3 := Lib.cell_of_heap hx0 3
  simp only [List.getElem?_toArray, List.getElem?_cons_zero, List.getElem?_cons_succ] at x0 x1 x2 x3
  have HB := Lib.hid hB0
  have hth := (state_all hO hm).1 l W1 A B C c c1 c2 h.labs.length B C c1 c2 K kc (Nat.le_refl _) (H.on hB0) (by rw [hr]; exact (H.on hB0).root) (SlP.more (SlP.keep HT fun p hp => hB0.cell hp) fun b hb' => Nat.lt_of_lt_of_le hb' hB0.size) hcp
  rw [hr] at hth
  have HTH := Lib.hid hth
  have HAC := Lib.hid hac
  generalize stateI ((thrT h.mc h.labs.length 0 l).map (h.mc.out h.labs.length)) = z at *
  clear hth hac hr hB0 hx0 H HT
  go_wp2_with fail
  refine HTH.out.mono ?_
  rintro e W2 ⟨rfl, b2⟩
  have HB2 := Lib.hid (HB.out.trans (b2.mono HB.out.size))
  clear b2
  go_wp2
  go_ret
  exact ⟨ret_bool' (by rw [HAC.out]), HB2.out⟩

set_option maxHeartbeats 2000000 in
set_option maxRecDepth 100000 in
theorem rstate_step {h : Hd} {m : Nat} (hO : HdOk h m) (hm : m ≤ 400) (t : Tr) (ih : ∀ t' ∈ t.kids, StOk 15 h t') : StOk 15 h t := by
  intro w A B C c c1 c2 K kc H HT hcp
  have hB0 := (Below.refl _ w).alloc (Nat.le_refl _) (.cells #[.int .i64 h.K, .slice A h.labs.length c, .slice B h.root.nx.length c1, .slice C h.root.out.length c2] 28)
  have hx0 := heap_alloc_new w (.cells #[.int .i64 h.K, .slice A h.labs.length c, .slice B h.root.nx.length c1, .slice C h.root.out.length c2] 28)
  have hs0 : (w.alloc (.cells #[.int .i64 h.K, .slice A h.labs.length c, .slice B h.root.nx.length c1, .slice C h.root.out.length c2] 28)).heap.size = w.heap.size + 1 := World.size_alloc _ _
  have hB1 := hB0.alloc (by omega) (.cells #[.int .i64 t.lab, .slice K t.kids.length kc] 38)
  have hx1 := heap_alloc_new (w.alloc (.cells #[.int .i64 h.K, .slice A h.labs.length c, .slice B h.root.nx.length c1, .slice C h.root.out.length c2] 28)) (.cells #[.int .i64 t.lab, .slice K t.kids.length kc] 38)
  have hx0' := (Below.heap_alloc (w.alloc (.cells #[.int .i64 h.K, .slice A h.labs.length c, .slice B h.root.nx.length c1, .slice C h.root.out.length c2] 28)) (.cells #[.int .i64 t.lab, .slice K t.kids.length kc] 38) w.heap.size (by omega)).trans hx0
  rw [hs0] at hx1
  have hLb := hO.fewL
  have hkb := hcp.len
  have hM := hO.mcOk hm
  go_enter Try.func15, Try.ntmps15
  go_upto_region 1 with fail
  generalize (w.alloc (.cells #[.int .i64 h.K, .slice A h.labs.length c, .slice B h.root.nx.length c1, .slice C h.root.out.length c2] 28)).alloc (.cells #[.int .i64 t.lab, .slice K t.kids.length kc] 38) = W2 at *
  have x0 := Lib.cell_of_heap hx0' 0
  have x1 := Lib.cell_of_heap hx0' 1
  have x2 := Lib.cell_of_heap hx0' 2
  have x3 := Lib.cell_of_heap hx0' 3
  have y0 := Lib.cell_of_heap hx1 0
  have y1 := Lib.cell_of_heap hx1 1
  simp only [List.getElem?_toArray, List.getElem?_cons_zero, List.getElem?_cons_succ] at x0 x1 x2 x3 y0 y1
  have hwl0 := (Array.getElem?_eq_some_iff.1 hx0').1
  have hwl1 := (Array.getElem?_eq_some_iff.1 hx1).1
  have HB := Lib.hid hB1
  have HV := Lib.hid (H.on hB1)
  have HTT := Lib.hid (SlP.more (SlP.keep HT fun p hp => hB1.cell hp) fun b hb' => Nat.lt_of_lt_of_le hb' hB1.size)
  have IH := Lib.hid ih
  have HM := Lib.hid hM
  clear hx0 hs0 hB0 hB1 hx0' hx1 H HT ih hM
  by_cases h1 : t.lab < 0
  · have HRET := Lib.hid (show stateI (stT h.mc t) = -1 by rw [stT_out (fun h9 => by omega)]; rfl)
    go_wp2
    go_ret
    exact ⟨ret_int (by rw [HRET.out]), HB.out⟩
  · by_cases h2 : (h.labs.length : Int) ≤ t.lab
    · have HRET := Lib.hid (show stateI (stT h.mc t) = -1 by rw [stT_out (fun h9 => by have : t.lab < (h.labs.length : Int) := h9.2; omega)]; rfl)
      go_wp2
      go_ret
      exact ⟨ret_int (by rw [HRET.out]), HB.out⟩
    · obtain ⟨n, hn⟩ : ∃ n : Nat, t.lab = (n : Int) := ⟨t.lab.toNat, by omega⟩
      have hnl : n < h.labs.length := by omega
      have HRET := Lib.hid (show stateI (stT h.mc t) = stateI ((thrT h.mc n 0 t.kids).map (h.mc.out n)) by rw [stT_in (M := h.mc) hn hnl])
      obtain ⟨a, B', c1', C', c2', rfl, hab, k0, k1, hsd⟩ := labs_at HV.out.labs (Hd.side_lt hnl)
      have hside := (hO.sideOk n).1
      have e1 : ∀ s v, h.mc.nx n s v = (h.side n).nxt s v := fun _ _ => rfl
      have e2 : ∀ s, h.mc.out n s = (h.side n).tell s := fun _ => rfl
      generalize h.side n = sd at *
      rw [hn] at y0
      have hnI : (n : Int) < (h.labs.length : Int) := by omega
      have hn0 : (0 : Int) ≤ (n : Int) := by omega
      have hn1 : ¬ (n : Int) < 0 := by omega
      have hn2 : ¬ (h.labs.length : Int) ≤ (n : Int) := by omega
      have hal := (Below.refl _ W2).alloc (Nat.le_refl _) (.cells #[.slice B' sd.nx.length c1', .slice C' sd.out.length c2'] 26)
      have hxs := heap_alloc_new W2 (.cells #[.slice B' sd.nx.length c1', .slice C' sd.out.length c2'] 26)
      have hszs : (W2.alloc (.cells #[.slice B' sd.nx.length c1', .slice C' sd.out.length c2'] 26)).heap.size = W2.heap.size + 1 := World.size_alloc _ _
      clear h1 h2
      rw [hn]
      clear hn
      go_upto_region 4 with fail
      generalize W2.alloc (.cells #[.slice B' sd.nx.length c1', .slice C' sd.out.length c2'] 26) = W4 at *
      have z0 := Lib.cell_of_heap hxs 0
      have z1 := Lib.cell_of_heap hxs 1
      simp only [List.getElem?_toArray, List.getElem?_cons_zero, List.getElem?_cons_succ] at z0 z1
      have HV4 := Lib.hid (HV.out.on hal)
      have HS4 := Lib.hid (hsd.on hal)
      have HT4 := Lib.hid (SlP.more (SlP.keep HTT.out fun p hp => hal.cell hp) fun b hb' => Nat.lt_of_lt_of_le hb' hal.size)
      have HB4 := Lib.hid (HB.out.trans (hal.mono HB.out.size))
      have hwl4 : W2.heap.size < W4.heap.size := by omega
      have hwb0 : w.heap.size < W4.heap.size := by omega
      have hwb1 : w.heap.size + 1 < W4.heap.size := by omega
      have r0 := fun w' (hw' : Below W4.heap.size W4 w') => (hw'.cell (p := ⟨w.heap.size, 0, none⟩) hwb0).trans ((hal.cell (p := ⟨w.heap.size, 0, none⟩) hwl0).trans x0)
      have r1 := fun w' (hw' : Below W4.heap.size W4 w') => (hw'.cell (p := ⟨w.heap.size, 1, none⟩) hwb0).trans ((hal.cell (p := ⟨w.heap.size, 1, none⟩) hwl0).trans x1)
      have r2 := fun w' (hw' : Below W4.heap.size W4 w') => (hw'.cell (p := ⟨w.heap.size, 2, none⟩) hwb0).trans ((hal.cell (p := ⟨w.heap.size, 2, none⟩) hwl0).trans x2)
      have r3 := fun w' (hw' : Below W4.heap.size W4 w') => (hw'.cell (p := ⟨w.heap.size, 3, none⟩) hwb0).trans ((hal.cell (p := ⟨w.heap.size, 3, none⟩) hwl0).trans x3)
      have r5 := fun w' (hw' : Below W4.heap.size W4 w') => (hw'.cell (p := ⟨w.heap.size + 1, 1, none⟩) hwb1).trans ((hal.cell (p := ⟨w.heap.size + 1, 1, none⟩) hwl1).trans y1)
      have q0 := fun w' (hw' : Below W4.heap.size W4 w') => (hw'.cell (p := ⟨W2.heap.size, 0, none⟩) hwl4).trans z0
      have q1 := fun w' (hw' : Below W4.heap.size W4 w') => (hw'.cell (p := ⟨W2.heap.size, 1, none⟩) hwl4).trans z1
      have HR := Lib.hid (And.intro r0 (And.intro r1 (And.intro r2 (And.intro r3 (And.intro r5 (And.intro q0 q1))))))
      have HSD := Lib.hid hside
      have HEE := Lib.hid (And.intro e1 (And.intro e2 hside.len))
      have hszp := hside.pos
      clear x0 x1 x2 x3 y0 y1 k0 k1 z0 z1 hxs hszs hal hsd hside e1 e2 r0 r1 r2 r3 r5 q0 q1
      go_wp2
      go_loopw [7, 6] (fun iv sv wr => ∃ i s : Nat, iv = .int .i64 i ∧ i ≤ t.kids.length ∧ sv = .int .i64 s ∧ s < sd.out.length ∧ Hid (thrT h.mc n 0 (t.kids.take i) = some s) ∧ Below W4.heap.size W4 wr) (fun iv _ _ => t.kids.length - (intOf iv).toNat)
      case atStart => exact ⟨0, 0, rfl, Nat.zero_le _, rfl, hszp, rfl, Below.refl _ _⟩
      case round =>
        obtain ⟨i, s, rfl, hi, rfl, hs, hth, hb⟩ := hrel
        have y1 := HR.out.2.2.2.2.1 wr hb
        have hsI : (s : Int) < (sd.out.length : Int) := by omega
        have hs0 : (0 : Int) ≤ (s : Int) := by omega
        have hsN : (s : Int) < (sd.nx.length : Int) := by have := HEE.out.2.2; omega
        by_cases hlt : i < t.kids.length
        · obtain ⟨t', ht⟩ : ∃ t', t.kids[i]? = some t' := ⟨_, List.getElem?_eq_getElem hlt⟩
          obtain ⟨ak, K', kc', rfl, hak, k0, k1, hcp', hkt⟩ := trs_at HT4.out ht
          have hak2 : (ak.add (i * 2)).block < W4.heap.size := by rw [block_add]; exact hak
          have hbd := Below.drew hb
          have HC := Lib.hid (IH.out t' (List.mem_of_getElem? ht) wr.drew (some a) B C c c1 c2 K' kc' (HV4.out.on hbd) (SlP.more (SlP.keep hkt fun p hp => hbd.cell hp) fun b hb' => Nat.lt_of_lt_of_le hb' hbd.size) hcp')
          have HT2 := Lib.hid ht
          have hiI : (i : Int) < (t.kids.length : Int) := by omega
          have hi0 : (0 : Int) ≤ (i : Int) := by omega
          have r0 := HR.out.1
          have r1 := HR.out.2.1
          have r2 := HR.out.2.2.1
          have r3 := HR.out.2.2.2.1
          have r5 := HR.out.2.2.2.2.1
          have r6 := fun w' (hw' : Below W4.heap.size W4 w') => (hw'.cell (p := ak.add (i * 2)) hak2).trans k0
          have r7 := fun w' (hw' : Below W4.heap.size W4 w') => (hw'.cell (p := ⟨(ak.add (i * 2)).block, (ak.add (i * 2)).off + 1, none⟩) hak2).trans k1
          clear k0 k1 hkt ht
          go_upto_region 8 with fail
          go_cut [8] (fun s8 wx => s8 = .int .i64 (stateI (stT h.mc t')) ∧ Below W4.heap.size W4 wx)
          case first =>
            go_region_held3 (fun w' => Below W4.heap.size W4 w')
              (first | assumption | exact Below.drew hb | exact hbd.trans (b5.mono hbd.size))
              (first | (go_at_call 15; refine HC.out.mono ?_; rintro e W5 ⟨rfl, b5⟩))
            all_goals
              go_wp2_with fail
              go_meet
              exact ⟨rfl, hbd.trans (b5.mono hbd.size)⟩
          case rest =>
            obtain ⟨rfl, b5⟩ := hcut
            rename World => W5
            have HB5 := Lib.hid b5
            have HBF := Lib.hid (HB4.out.trans (b5.mono HB4.out.size))
            have z0 := HR.out.2.2.2.2.2.1 W5 b5
            have z1 := HR.out.2.2.2.2.2.2 W5 b5
            clear r0 r1 r2 r3 r5 r6 r7 y1 hb hbd
            cases hst : stT h.mc t' with
            | none =>
              have HR2 := Lib.hid (show stateI ((thrT h.mc n 0 t.kids).map (h.mc.out n)) = -1 by rw [thrT_none HT2.out hst]; rfl)
              clear b5 hst
              rw [stateI]
              go_wp2
              go_ret
              exact ⟨ret_int (by rw [HRET.out, HR2.out]), HBF.out⟩
            | some v =>
              have hv := (thr_lt HM.out).1 t' v hst
              obtain ⟨r, r1, r2, r3, r4⟩ := HSD.out.nxt hs hv
              have hsd5 := HS4.out.on b5
              obtain ⟨ar, R, rc, rfl, har, q0, hrc, hrow⟩ := hsd5.row_at r1
              obtain ⟨ai, rfl, hai, q1⟩ := ints_at' hrow r3
              have hvr : (v : Int) < (r.length : Int) := by rw [r2]; exact Int.ofNat_lt.2 hv
              have hv0 : (0 : Int) ≤ (v : Int) := by omega
              have hv1 : ¬ (v : Int) < 0 := by omega
              have HTH := Lib.hid (show thrT h.mc n 0 (t.kids.take (i + 1)) = some (sd.nxt s v) by rw [thrT_take HT2.out, hth.out, hst, Option.bind_some, Option.map_some, HEE.out.1])
              clear b5 hst r1 r2 r3 hsd5 hrow hv hth
              rw [stateI]
              generalize sd.nxt s v = s2 at *
              go_wp2
              go_roundw
              case rel => exact ⟨i + 1, s2, by go_num, by omega, rfl, r4, HTH.out, HB5.out⟩
              case measure => simp [intOf]; omega
        · obtain rfl : i = t.kids.length := by omega
          obtain ⟨t1, t2⟩ := HSD.out.tell hs
          obtain ⟨ao, rfl, hao, q0⟩ := ints_at' (HS4.out.on hb).out t1
          have z1 := HR.out.2.2.2.2.2.2 wr hb
          have HBF := Lib.hid (HB4.out.trans (hb.mono HB4.out.size))
          have HR2 := Lib.hid (show stateI ((thrT h.mc n 0 t.kids).map (h.mc.out n)) = (sd.tell s : Int) by
            have := hth.out
            rw [List.take_length] at this
            rw [this, Option.map_some, HEE.out.2.1]
            rfl)
          clear hb t1 hth
          generalize sd.tell s = s2 at *
          go_wp2
          go_ret
          exact ⟨ret_int (by rw [HRET.out, HR2.out]), HBF.out⟩

theorem rstate_any {h : Hd} {m : Nat} (hO : HdOk h m) (hm : m ≤ 400) : ∀ t, StOk 15 h t := by
  suffices hk : ∀ k, ∀ t, wtT t ≤ k → StOk 15 h t from fun t => hk _ t (Nat.le_refl _)
  intro k
  induction k with
  | zero => intro t ht; rw [wtT_eq] at ht; omega
  | succ k ih =>
    intro t ht
    refine rstate_step hO hm t fun t' ht' => ih t' ?_
    have h1 : ∀ l : List Tr, t' ∈ l → wtT t' ≤ wtTs l := by
      intro l
      induction l with
      | nil => intro h; cases h
      | cons x l ihl =>
        intro h2
        rw [wtTs]
        rcases List.mem_cons.1 h2 with rfl | h3
        · omega
        · have := ihl h3; omega
    have := h1 _ ht'
    rw [wtT_eq] at ht
    omega
set_option maxHeartbeats 2000000 in
set_option maxRecDepth 100000 in
theorem raccepts_any {w : World} {h : Hd} {A B C K : Option Addr} {c c1 c2 kc m : Nat} {l : List Tr} (H : HdV w (fun b => b < w.heap.size) h A c B c1 C c2) (hO : HdOk h m) (hm : m ≤ 400) (HT : SlP w (fun b => b < w.heap.size) 2 K l.length (trsC l)) (hcp : Cap l.length kc) :
    Calls Try.prog 17 #[hdVal h A c B c1 C c2, .slice K l.length kc] w fun e w' => e = .returned (.bool (accB h.mc l)) ∧ Below w.heap.size w w' := by
  have hB0 := (Below.refl _ w).alloc (Nat.le_refl _) (.cells #[.int .i64 h.K, .slice A h.labs.length c, .slice B h.root.nx.length c1, .slice C h.root.out.length c2] 28)
  have hx0 := heap_alloc_new w (.cells #[.int .i64 h.K, .slice A h.labs.length c, .slice B h.root.nx.length c1, .slice C h.root.out.length c2] 28)
  have hkb := hcp.len
  have hM := hO.mcOk hm
  have hr : h.side h.labs.length = h.root := Hd.side_ge (Nat.le_refl _)
  have e1 : ∀ s v, h.mc.nx h.labs.length s v = h.root.nxt s v := fun s v => by show (h.side h.labs.length).nxt s v = _; rw [hr]
  have e2 : ∀ s, h.mc.out h.labs.length s = h.root.tell s := fun s => by show (h.side h.labs.length).tell s = _; rw [hr]
  have hac : accB h.mc l = (stateI ((thrT h.mc h.labs.length 0 l).map (h.mc.out h.labs.length)) == 1) := rfl
  have hside := hO.root
  go_enter Try.func17, Try.ntmps17
  go_upto_region 1 with fail
  generalize w.alloc (.cells #[.int .i64 h.K, .slice A h.labs.length c, .slice B h.root.nx.length c1, .slice C h.root.out.length c2] 28) = W4 at *
  have x0 := Lib.cell_of_heap hx0 0
  have x1 := Lib.cell_of_heap hx0 1
  have x2 := Lib.cell_of_heap hx0 2
  have x3 := Lib.cell_of_heap hx0 3
  simp only [List.getElem?_toArray, List.getElem?_cons_zero, List.getElem?_cons_succ] at x0 x1 x2 x3
  have hwb0 := (Array.getElem?_eq_some_iff.1 hx0).1
  have HB4 := Lib.hid hB0
  have HV4 := Lib.hid (H.on hB0)
  have HT4 := Lib.hid (SlP.more (SlP.keep HT fun p hp => hB0.cell hp) fun b hb' => Nat.lt_of_lt_of_le hb' hB0.size)
  have HM := Lib.hid hM
  have r0 := fun w' (hw' : Below W4.heap.size W4 w') => (hw'.cell (p := ⟨w.heap.size, 0, none⟩) hwb0).trans x0
  have r1 := fun w' (hw' : Below W4.heap.size W4 w') => (hw'.cell (p := ⟨w.heap.size, 1, none⟩) hwb0).trans x1
  have r2 := fun w' (hw' : Below W4.heap.size W4 w') => (hw'.cell (p := ⟨w.heap.size, 2, none⟩) hwb0).trans x2
  have r3 := fun w' (hw' : Below W4.heap.size W4 w') => (hw'.cell (p := ⟨w.heap.size, 3, none⟩) hwb0).trans x3
  have HR := Lib.hid (And.intro r0 (And.intro r1 (And.intro r2 r3)))
  have HSD := Lib.hid hside
  have HEE := Lib.hid (And.intro e1 (And.intro e2 (And.intro hside.len hac)))
  have hszp := hside.pos
  have hLb := hO.fewL
  have hszm := hO.fewR
  clear x0 x1 x2 x3 hB0 hx0 H HT hM hr e1 e2 hac hside r0 r1 r2 r3
  generalize hsdn : h.labs.length = n at *
  generalize hrt : h.root = sd at *
  have HNS := Lib.hid (And.intro hsdn hrt)
  clear hsdn hrt
  go_wp2
  go_loopw [6, 5] (fun iv sv wr => ∃ i s : Nat, iv = .int .i64 i ∧ i ≤ l.length ∧ sv = .int .i64 s ∧ s < sd.out.length ∧ Hid (thrT h.mc n 0 (l.take i) = some s) ∧ Below W4.heap.size W4 wr) (fun iv _ _ => l.length - (intOf iv).toNat)
  case atStart => exact ⟨0, 0, rfl, Nat.zero_le _, rfl, hszp, rfl, Below.refl _ _⟩
  case round =>
    obtain ⟨i, s, rfl, hi, rfl, hs, hth, hb⟩ := hrel
    have hsI : (s : Int) < (sd.out.length : Int) := by omega
    have hs0 : (0 : Int) ≤ (s : Int) := by omega
    have hsN : (s : Int) < (sd.nx.length : Int) := by have := HEE.out.2.2.1; omega
    by_cases hlt : i < l.length
    · obtain ⟨t', ht⟩ : ∃ t', l[i]? = some t' := ⟨_, List.getElem?_eq_getElem hlt⟩
      obtain ⟨ak, K', kc', rfl, hak, k0, k1, hcp', hkt⟩ := trs_at HT4.out ht
      have hak2 : (ak.add (i * 2)).block < W4.heap.size := by rw [block_add]; exact hak
      have hbd := Below.drew hb
      have hcall := rstate_any hO hm t' wr.drew A B C c c1 c2 K' kc' (HV4.out.on hbd) (SlP.more (SlP.keep hkt fun p hp => hbd.cell hp) fun b hb' => Nat.lt_of_lt_of_le hb' hbd.size) hcp'
      simp only [hdVal, HNS.out.1, HNS.out.2] at hcall
      have HC := Lib.hid hcall
      have HT2 := Lib.hid ht
      have hiI : (i : Int) < (l.length : Int) := by omega
      have hi0 : (0 : Int) ≤ (i : Int) := by omega
      have r0 := HR.out.1
      have r1 := HR.out.2.1
      have r2 := HR.out.2.2.1
      have r3 := HR.out.2.2.2
      have r6 := fun w' (hw' : Below W4.heap.size W4 w') => (hw'.cell (p := ak.add (i * 2)) hak2).trans k0
      have r7 := fun w' (hw' : Below W4.heap.size W4 w') => (hw'.cell (p := ⟨(ak.add (i * 2)).block, (ak.add (i * 2)).off + 1, none⟩) hak2).trans k1
      clear k0 k1 hkt ht hcall
      go_upto_region 5 with fail
      go_cut [7] (fun s8 wx => s8 = .int .i64 (stateI (stT h.mc t')) ∧ Below W4.heap.size W4 wx)
      case first =>
        go_region_held3 (fun w' => Below W4.heap.size W4 w')
          (first | assumption | exact Below.drew hb | exact hbd.trans (b5.mono hbd.size))
          (first | (go_at_call 15; refine HC.out.mono ?_; rintro e W5 ⟨rfl, b5⟩))
        all_goals
          go_wp2_with fail
          go_meet
          exact ⟨rfl, hbd.trans (b5.mono hbd.size)⟩
      case rest =>
        obtain ⟨rfl, b5⟩ := hcut
        rename World => W5
        have HB5 := Lib.hid b5
        have HBF := Lib.hid (HB4.out.trans (b5.mono HB4.out.size))
        have x2 := HR.out.2.2.1 W5 b5
        have x3 := HR.out.2.2.2 W5 b5
        clear r0 r1 r2 r3 r6 r7 hb hbd
        cases hst : stT h.mc t' with
        | none =>
          have HR2 := Lib.hid (show accB h.mc l = false by rw [HEE.out.2.2.2, thrT_none HT2.out hst]; rfl)
          clear b5 hst
          rw [stateI]
          go_wp2
          go_ret
          exact ⟨ret_bool' (by rw [HR2.out]), HBF.out⟩
        | some v =>
          have hv := (thr_lt HM.out).1 t' v hst
          obtain ⟨r, r1, r2, r3, r4⟩ := HSD.out.nxt hs hv
          have hsd5 := (HV4.out.on b5).root
          rw [HNS.out.2] at hsd5
          obtain ⟨ar, R, rc, rfl, har, q0, hrc, hrow⟩ := hsd5.row_at r1
          obtain ⟨ai, rfl, hai, q1⟩ := ints_at' hrow r3
          have hvr : (v : Int) < (r.length : Int) := by rw [r2]; exact Int.ofNat_lt.2 hv
          have hv0 : (0 : Int) ≤ (v : Int) := by omega
          have hv1 : ¬ (v : Int) < 0 := by omega
          have HTH := Lib.hid (show thrT h.mc n 0 (l.take (i + 1)) = some (sd.nxt s v) by rw [thrT_take HT2.out, hth.out, hst, Option.bind_some, Option.map_some, HEE.out.1])
          clear b5 hst r1 r2 r3 hsd5 hrow hv hth
          rw [stateI]
          generalize sd.nxt s v = s2 at *
          go_wp2
          go_roundw
          case rel => exact ⟨i + 1, s2, by go_num, by omega, rfl, r4, HTH.out, HB5.out⟩
          case measure => simp [intOf]; omega
    · obtain rfl : i = l.length := by omega
      obtain ⟨t1, t2⟩ := HSD.out.tell hs
      have hsd5 := (HV4.out.on hb).root
      rw [HNS.out.2] at hsd5
      obtain ⟨ao, rfl, hao, q0⟩ := ints_at' hsd5.out t1
      have x2 := HR.out.2.2.1 wr hb
      have x3 := HR.out.2.2.2 wr hb
      have HBF := Lib.hid (HB4.out.trans (hb.mono HB4.out.size))
      have HR2 := Lib.hid (show accB h.mc l = ((sd.tell s : Int) == 1) by
        have := hth.out
        rw [List.take_length] at this
        rw [HEE.out.2.2.2, this, Option.map_some, HEE.out.2.1]
        rfl)
      clear hb t1 hth hsd5
      generalize sd.tell s = s2 at *
      go_wp2
      go_ret
      exact ⟨ret_bool' (by rw [HR2.out]), HBF.out⟩
end Go.Proofs.Ytbipdnnalhdoaaa
