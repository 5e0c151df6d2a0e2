/- State, Accepts, of the program. -/
import Derived.Test.YtbipdnnalhdoaaaHw
import Derived.Test.YtbipdnnalhdoaaaHq
namespace Go.Proofs.Ytbipdnnalhdoaaa
open Go.RowKit Go.Maps Go.WideMaps
attribute [local go_sem ↓] Go.wp_at_zero Go.wp_at_succ

def stateI : Option Nat → Int
  | none => -1
  | some v => (v : Int)
theorem thrT_take {M : Mc} {n i : Nat} {l : List Tr} {t : Tr} (ht : l[i]? = some t) : thrT M n 0 (l.take (i + 1)) = (thrT M n 0 (l.take i)).bind fun s => (stT M t).map fun v => M.nx n s v := by
  have hkl : i < l.length := (List.getElem?_eq_some_iff.1 ht).1
  rw [List.take_succ_eq_append_getElem hkl, (List.getElem?_eq_some_iff.1 ht).2, thrT_append]
  congr 1
  funext s
  rw [thrT]
  cases stT M t with
  | none => rfl
  | some v => show thrT M n _ [] = _; rw [thrT]; rfl
theorem thrT_none {M : Mc} {n i : Nat} {l : List Tr} {t : Tr} (ht : l[i]? = some t) (hn : stT M t = none) : thrT M n 0 l = none := by
  have h1 := thrT_take (M := M) (n := n) ht
  rw [hn] at h1
  have h2 := thrT_append M n (l.take (i + 1)) (l.drop (i + 1)) 0
  rw [List.take_append_drop, h1] at h2
  rw [h2]
  cases thrT M n 0 (l.take i) <;> rfl
theorem thr_lt {M : Mc} (hO : M.Ok) : (∀ (t : Tr) (v : Nat), stT M t = some v → v < M.K) ∧ (∀ (l : List Tr) (n s s' : Nat), n ≤ M.L → s < M.sz n → thrT M n s l = some s' → s' < M.sz n) := by
  suffices h : ∀ k, (∀ (t : Tr) (v : Nat), wtT t ≤ k → stT M t = some v → v < M.K) ∧ (∀ (l : List Tr) (n s s' : Nat), wtTs l ≤ k → n ≤ M.L → s < M.sz n → thrT M n s l = some s' → s' < M.sz n) from
    ⟨fun t v h1 => (h (wtT t)).1 t v (Nat.le_refl _) h1, fun l n s s' h1 h2 h3 => (h (wtTs l)).2 l n s s' (Nat.le_refl _) h1 h2 h3⟩
  intro k
  induction k with
  | zero =>
    refine ⟨fun t v hk _ => ?_, fun l n s s' hk hn hs h => ?_⟩
    · rw [wtT_eq] at hk; omega
    · cases l with
      | nil => simp only [thrT] at h; injection h with h; subst h; exact hs
      | cons t l => rw [wtTs, wtT_eq] at hk; omega
  | succ k ih =>
    have hT : ∀ (t : Tr) (v : Nat), wtT t ≤ k + 1 → stT M t = some v → v < M.K := by
      intro t v hk h
      cases t with
      | mk a kids =>
        rw [stT] at h
        split at h
        · rename_i ha
          rw [wtT] at hk
          cases h1 : thrT M a.toNat 0 kids with
          | none => rw [h1] at h; cases h
          | some s =>
            rw [h1] at h
            injection h with h
            rw [← h]
            exact hO.out _ _ ha.2 (ih.2 kids a.toNat 0 s (by omega) (by omega) (hO.pos _ (by omega)) h1)
        · cases h
    refine ⟨hT, fun l => ?_⟩
    induction l with
    | nil => intro n s s' _ _ hs h; simp only [thrT] at h; injection h with h; subst h; exact hs
    | cons t l ihl =>
      intro n s s' hk hn hs h
      rw [thrT] at h
      rw [wtTs] at hk
      cases h1 : stT M t with
      | none => rw [h1] at h; cases h
      | some v =>
        rw [h1] at h
        exact ihl n _ s' (by omega) hn (hO.nx _ _ _ hn hs (hT t v (by omega) h1)) h
/-- State, or the reference's, of a tree -/
def StOk (F : FuncId) (h : Hd) (t : Tr) : Prop := ∀ (w : World) (A B C : Option Addr) (c c1 c2 : Nat) (K : Option Addr) (kc : Nat), HdV w (fun b => b < w.heap.size) h A c B c1 C c2 → SlP w (fun b => b < w.heap.size) 2 K t.kids.length (trsC t.kids) → Cap t.kids.length kc →
  Calls Try.prog F #[hdVal h A c B c1 C c2, .agg #[.int .i64 t.lab, .slice K t.kids.length kc]] w fun e w' => e = .returned (.int .i64 (stateI (stT h.mc t))) ∧ Below w.heap.size w w'
def ThOk (h : Hd) (l : List Tr) : Prop := ∀ (w : World) (A B C : Option Addr) (c c1 c2 n : Nat) (B' C' : Option Addr) (c1' c2' : Nat) (K : Option Addr) (kc : Nat), n ≤ h.labs.length → HdV w (fun b => b < w.heap.size) h A c B c1 C c2 → SdV w (fun b => b < w.heap.size) (h.side n) B' c1' C' c2' →
  SlP w (fun b => b < w.heap.size) 2 K l.length (trsC l) → Cap l.length kc →
  Calls Try.prog 35 #[hdVal h A c B c1 C c2, sdVal (h.side n) B' c1' C' c2', .slice K l.length kc] w fun e w' => e = .returned (.int .i64 (stateI ((thrT h.mc n 0 l).map (h.mc.out n)))) ∧ Below w.heap.size w w'

set_option maxHeartbeats 2000000 in
set_option maxRecDepth 100000 in
theorem through_step {h : Hd} {m : Nat} (hO : HdOk h m) (hm : m ≤ 400) (l : List Tr) (ih : ∀ t ∈ l, StOk 14 h t) : ThOk h l := by
  intro w A B C c c1 c2 n B' C' c1' c2' K kc hn H HS HT hcp
  have hM := hO.mcOk hm
  have hside := (hO.sideOk n).1
  have hss := (hO.sideOk n).2
  have hlb := hcp.len
  have e1 : ∀ s v, h.mc.nx n s v = (h.side n).nxt s v := fun _ _ => rfl
  have e2 : ∀ s, h.mc.out n s = (h.side n).tell s := fun _ => rfl
  have e3 : h.mc.sz n = (h.side n).out.length := rfl
  generalize h.side n = sd at *
  have hszp := hside.pos
  have hB0 := (Below.refl _ w).alloc (Nat.le_refl _) (.cells #[.int .i64 h.K, .slice A h.labs.length c, .slice B h.root.nx.length c1, .slice C h.root.out.length c2] 28)
  have hx0 := heap_alloc_new w (.cells #[.int .i64 h.K, .slice A h.labs.length c, .slice B h.root.nx.length c1, .slice C h.root.out.length c2] 28)
  have hs0 : (w.alloc (.cells #[.int .i64 h.K, .slice A h.labs.length c, .slice B h.root.nx.length c1, .slice C h.root.out.length c2] 28)).heap.size = w.heap.size + 1 := World.size_alloc _ _
  have hB1 := hB0.alloc (by omega) (.cells #[.slice B' sd.nx.length c1', .slice C' sd.out.length c2'] 26)
  have hx1 := heap_alloc_new (w.alloc (.cells #[.int .i64 h.K, .slice A h.labs.length c, .slice B h.root.nx.length c1, .slice C h.root.out.length c2] 28)) (.cells #[.slice B' sd.nx.length c1', .slice C' sd.out.length c2'] 26)
  have hx0' := (Below.heap_alloc (w.alloc (.cells #[.int .i64 h.K, .slice A h.labs.length c, .slice B h.root.nx.length c1, .slice C h.root.out.length c2] 28)) (.cells #[.slice B' sd.nx.length c1', .slice C' sd.out.length c2'] 26) w.heap.size (by omega)).trans hx0
  rw [hs0] at hx1
  go_enter Try.func35, Try.ntmps35
  go_upto_region 1 with fail
  generalize (w.alloc (.cells #[.int .i64 h.K, .slice A h.labs.length c, .slice B h.root.nx.length c1, .slice C h.root.out.length c2] 28)).alloc (.cells #[.slice B' sd.nx.length c1', .slice C' sd.out.length c2'] 26) = W2 at *
  have hwl0 := (Array.getElem?_eq_some_iff.1 hx0').1
  have hwl1 := (Array.getElem?_eq_some_iff.1 hx1).1
  have HX := Lib.hid (And.intro hx0' hx1)
  have HB := Lib.hid hB1
  have HV := Lib.hid (H.on hB1)
  have HVS := Lib.hid (HS.on hB1)
  have HTT := Lib.hid (SlP.more (SlP.keep HT fun p hp => hB1.cell hp) fun b hb' => Nat.lt_of_lt_of_le hb' hB1.size)
  have IH := Lib.hid ih
  have HSD := Lib.hid hside
  have HEE := Lib.hid (And.intro e1 (And.intro e2 (And.intro e3 hside.len)))
  have HM := Lib.hid hM
  clear hx0 hs0 hB0 hB1 hx0' hx1 H HS HT ih hside hss e1 e2 e3 hM
  go_wp2
  go_loopw [13, 7] (fun iv sv wr => ∃ i s : Nat, iv = .int .i64 i ∧ i ≤ l.length ∧ sv = .int .i64 s ∧ s < sd.out.length ∧ Hid (thrT h.mc n 0 (l.take i) = some s) ∧ Below W2.heap.size W2 wr) (fun iv _ _ => l.length - (intOf iv).toNat)
  case atStart => exact ⟨0, 0, rfl, Nat.zero_le _, rfl, hszp, rfl, Below.refl _ _⟩
  case round =>
    obtain ⟨i, s, rfl, hi, rfl, hs, hth, hb⟩ := hrel
    have hx0 := (hb.block _ hwl0).trans HX.out.1
    have hx1 := (hb.block _ hwl1).trans HX.out.2
    have x0 := Lib.cell_of_heap hx0 0
    have x1 := Lib.cell_of_heap hx0 1
    have x2 := Lib.cell_of_heap hx0 2
    have x3 := Lib.cell_of_heap hx0 3
    have y0 := Lib.cell_of_heap hx1 0
    have y1 := Lib.cell_of_heap hx1 1
    simp only [List.getElem?_toArray, List.getElem?_cons_zero, List.getElem?_cons_succ] at x0 x1 x2 x3 y0 y1
    have hsI : (s : Int) < (sd.out.length : Int) := by omega
    have hs0 : (0 : Int) ≤ (s : Int) := by omega
    have hsN : (s : Int) < (sd.nx.length : Int) := by have := HEE.out.2.2.2; omega
    by_cases hlt : i < l.length
    · obtain ⟨t, ht⟩ : ∃ t, l[i]? = some t := ⟨_, List.getElem?_eq_getElem hlt⟩
      obtain ⟨a, K', kc', rfl, hab, k0, k1, hcp', hkt⟩ := trs_at (SlP.more (SlP.keep HTT.out fun p hp => hb.cell hp) fun b hb' => Nat.lt_of_lt_of_le hb' hb.size) ht
      have hal := (Below.refl _ wr).alloc (Nat.le_refl _) (.cells #[.int .i64 t.lab, .slice K' t.kids.length kc'] 38)
      have hxn := heap_alloc_new wr (.cells #[.int .i64 t.lab, .slice K' t.kids.length kc'] 38)
      have hbs := hb.size
      have hba := hb.trans (hal.mono hbs)
      have HC := Lib.hid (IH.out t (List.mem_of_getElem? ht) (wr.alloc (.cells #[.int .i64 t.lab, .slice K' t.kids.length kc'] 38)) A B C c c1 c2 K' kc' (HV.out.on hba) (SlP.more (SlP.keep hkt fun p hp => hal.cell hp) fun b hb' => Nat.lt_of_lt_of_le hb' hal.size) hcp')
      have HBA := Lib.hid hba
      have HT2 := Lib.hid ht
      have hiI : (i : Int) < (l.length : Int) := by omega
      have hi0 : (0 : Int) ≤ (i : Int) := by omega
      have hx0a := (hal.block _ (Nat.lt_of_lt_of_le hwl0 hbs)).trans hx0
      have hx1a := (hal.block _ (Nat.lt_of_lt_of_le hwl1 hbs)).trans hx1
      go_upto_region 5 with fail
      generalize wr.alloc (.cells #[.int .i64 t.lab, .slice K' t.kids.length kc'] 38) = W4 at *
      replace x0 := Lib.cell_of_heap hx0a 0
      replace x1 := Lib.cell_of_heap hx0a 1
      replace x2 := Lib.cell_of_heap hx0a 2
      replace x3 := Lib.cell_of_heap hx0a 3
      have z0 := Lib.cell_of_heap hxn 0
      have z1 := Lib.cell_of_heap hxn 1
      simp only [List.getElem?_toArray, List.getElem?_cons_zero, List.getElem?_cons_succ] at x0 x1 x2 x3 z0 z1
      clear ht hkt hba hal hb hxn hx0 hx1 hx0a hx1a k0 k1 y0 y1
      go_wp2_with fail
      refine HC.out.mono ?_
      rintro e W5 ⟨rfl, b5⟩
      have hb5 := HBA.out.trans (b5.mono HBA.out.size)
      have HB5 := Lib.hid hb5
      have HBF := Lib.hid (HB.out.trans (hb5.mono HB.out.size))
      have hx1 := (hb5.block _ hwl1).trans HX.out.2
      have y0 := Lib.cell_of_heap hx1 0
      have y1 := Lib.cell_of_heap hx1 1
      simp only [List.getElem?_toArray, List.getElem?_cons_zero, List.getElem?_cons_succ] at y0 y1
      cases hst : stT h.mc t with
      | none =>
        have HRET := Lib.hid (show stateI ((thrT h.mc n 0 l).map (h.mc.out n)) = -1 by rw [thrT_none HT2.out hst]; rfl)
        clear b5 hb5 hst hx1 x0 x1 x2 x3 z0 z1
        rw [stateI]
        go_wp2
        go_ret
        exact ⟨ret_int (by rw [HRET.out]), HBF.out⟩
      | some v =>
        have hv := (thr_lt HM.out).1 t v hst
        obtain ⟨r, r1, r2, r3, r4⟩ := HSD.out.nxt hs hv
        have hsd5 := HVS.out.on hb5
        obtain ⟨ar, R, rc, rfl, har, q0, hrc, hrow⟩ := hsd5.row_at r1
        obtain ⟨ai, rfl, hai, q1⟩ := ints_at' hrow r3
        have hvr : (v : Int) < (r.length : Int) := by rw [r2]; exact Int.ofNat_lt.2 hv
        have hv0 : (0 : Int) ≤ (v : Int) := by omega
        have HTH := Lib.hid (show thrT h.mc n 0 (l.take (i + 1)) = some (sd.nxt s v) by rw [thrT_take HT2.out, hth.out, hst, Option.bind_some, Option.map_some, HEE.out.1])
        clear b5 hb5 hst hx1 x0 x1 x2 x3 z0 z1 r1 r2 r3 hsd5 hrow hv hth
        rw [stateI]
        generalize sd.nxt s v = s2 at *
        go_wp2
        go_roundw
        case rel => exact ⟨i + 1, s2, by go_num, by omega, rfl, r4, HTH.out, HB5.out⟩
        case measure => simp [intOf]; omega
    · obtain rfl : i = l.length := by omega
      obtain ⟨t1, t2⟩ := HSD.out.tell hs
      obtain ⟨ao, rfl, hao, q0⟩ := ints_at' (HVS.out.on hb).out t1
      have HBF := Lib.hid (HB.out.trans (hb.mono HB.out.size))
      have HRET := Lib.hid (show stateI ((thrT h.mc n 0 l).map (h.mc.out n)) = (sd.tell s : Int) by
        have := hth.out
        rw [List.take_length] at this
        rw [this, Option.map_some, HEE.out.2.1]
        rfl)
      clear hb hx0 hx1 t1 hth
      generalize sd.tell s = s2 at *
      go_wp2
      go_ret
      exact ⟨ret_int (by rw [HRET.out]), HBF.out⟩

theorem stT_out {M : Mc} {t : Tr} (h : ¬ (0 ≤ t.lab ∧ t.lab < (M.L : Int))) : stT M t = none := by
  cases t with
  | mk a k =>
    rw [stT, if_neg]
    intro h9
    apply h
    simp only [Tr.lab]
    omega
theorem stT_in {M : Mc} {t : Tr} {n : Nat} (h : t.lab = (n : Int)) (hn : n < M.L) : stT M t = (thrT M n 0 t.kids).map (M.out n) := by
  cases t with
  | mk a k =>
    simp only [Tr.lab] at h
    subst h
    rw [stT_mk M hn]
    rfl
set_option maxHeartbeats 2000000 in
set_option maxRecDepth 100000 in
theorem state_step {h : Hd} {m : Nat} (hO : HdOk h m) (t : Tr) (ih : ThOk h t.kids) : StOk 14 h t := by
  intro w A B C c c1 c2 K kc H HT hcp
  have hB0 := (Below.refl _ w).alloc (Nat.le_refl _) (.cells #[.int .i64 h.K, .slice A h.labs.length c, .slice B h.root.nx.length c1, .slice C h.root.out.length c2] 28)
  have hx0 := heap_alloc_new w (.cells #[.int .i64 h.K, .slice A h.labs.length c, .slice B h.root.nx.length c1, .slice C h.root.out.length c2] 28)
  have hs0 : (w.alloc (.cells #[.int .i64 h.K, .slice A h.labs.length c, .slice B h.root.nx.length c1, .slice C h.root.out.length c2] 28)).heap.size = w.heap.size + 1 := World.size_alloc _ _
  have hB1 := hB0.alloc (by omega) (.cells #[.int .i64 t.lab, .slice K t.kids.length kc] 38)
  have hx1 := heap_alloc_new (w.alloc (.cells #[.int .i64 h.K, .slice A h.labs.length c, .slice B h.root.nx.length c1, .slice C h.root.out.length c2] 28)) (.cells #[.int .i64 t.lab, .slice K t.kids.length kc] 38)
  have hx0' := (Below.heap_alloc (w.alloc (.cells #[.int .i64 h.K, .slice A h.labs.length c, .slice B h.root.nx.length c1, .slice C h.root.out.length c2] 28)) (.cells #[.int .i64 t.lab, .slice K t.kids.length kc] 38) w.heap.size (by omega)).trans hx0
  rw [hs0] at hx1
  have hLb := hO.fewL
  go_enter Try.func14, Try.ntmps14
  go_upto_region 1 with fail
  generalize (w.alloc (.cells #[.int .i64 h.K, .slice A h.labs.length c, .slice B h.root.nx.length c1, .slice C h.root.out.length c2] 28)).alloc (.cells #[.int .i64 t.lab, .slice K t.kids.length kc] 38) = W2 at *
  have x0 := Lib.cell_of_heap hx0' 0
  have x1 := Lib.cell_of_heap hx0' 1
  have x2 := Lib.cell_of_heap hx0' 2
  have x3 := Lib.cell_of_heap hx0' 3
  have y0 := Lib.cell_of_heap hx1 0
  have y1 := Lib.cell_of_heap hx1 1
  simp only [List.getElem?_toArray, List.getElem?_cons_zero, List.getElem?_cons_succ] at x0 x1 x2 x3 y0 y1
  have hwl0 := (Array.getElem?_eq_some_iff.1 hx0').1
  have hwl1 := (Array.getElem?_eq_some_iff.1 hx1).1
  have HB := Lib.hid hB1
  have HV := Lib.hid (H.on hB1)
  have HTT := Lib.hid (SlP.more (SlP.keep HT fun p hp => hB1.cell hp) fun b hb' => Nat.lt_of_lt_of_le hb' hB1.size)
  have IH := Lib.hid ih
  clear hx0 hs0 hB0 hB1 hx0' hx1 H HT ih
  by_cases h1 : t.lab < 0
  · have HRET := Lib.hid (show stateI (stT h.mc t) = -1 by rw [stT_out (fun h9 => by omega)]; rfl)
    go_wp2
    go_ret
    exact ⟨ret_int (by rw [HRET.out]), HB.out⟩
  · by_cases h2 : (h.labs.length : Int) ≤ t.lab
    · have HRET := Lib.hid (show stateI (stT h.mc t) = -1 by rw [stT_out (fun h9 => by have : t.lab < (h.labs.length : Int) := h9.2; omega)]; rfl)
      go_wp2
      go_ret
      exact ⟨ret_int (by rw [HRET.out]), HB.out⟩
    · obtain ⟨n, hn⟩ : ∃ n : Nat, t.lab = (n : Int) := ⟨t.lab.toNat, by omega⟩
      have hnl : n < h.labs.length := by omega
      have HRET := Lib.hid (show stateI (stT h.mc t) = stateI ((thrT h.mc n 0 t.kids).map (h.mc.out n)) by rw [stT_in (M := h.mc) hn hnl])
      obtain ⟨a, B', c1', C', c2', rfl, hab, k0, k1, hsd⟩ := labs_at HV.out.labs (Hd.side_lt hnl)
      rw [hn] at y0
      have hnI : (n : Int) < (h.labs.length : Int) := by omega
      have hn0 : (0 : Int) ≤ (n : Int) := by omega
      have hn1 : ¬ (n : Int) < 0 := by omega
      have hn2 : ¬ (h.labs.length : Int) ≤ (n : Int) := by omega
      have HC := Lib.hid (IH.out W2.drew (some a) B C c c1 c2 n B' C' c1' c2' K kc (by omega) (HV.out.on (Below.drew (Below.refl _ W2))) (hsd.on (Below.drew (Below.refl _ W2))) (SlP.keep HTT.out fun p hp => (Below.drew (Below.refl _ W2)).cell hp) hcp)
      clear hsd h1 h2
      rw [hn]
      clear hn
      have hab2 : (a.add (n * 2)).block < W2.heap.size := by rw [block_add]; exact hab
      have r0 := fun w' (hw' : Below W2.heap.size W2 w') => (hw'.cell (p := ⟨w.heap.size, 0, none⟩) hwl0).trans x0
      have r1 := fun w' (hw' : Below W2.heap.size W2 w') => (hw'.cell (p := ⟨w.heap.size, 1, none⟩) hwl0).trans x1
      have r2 := fun w' (hw' : Below W2.heap.size W2 w') => (hw'.cell (p := ⟨w.heap.size, 2, none⟩) hwl0).trans x2
      have r3 := fun w' (hw' : Below W2.heap.size W2 w') => (hw'.cell (p := ⟨w.heap.size, 3, none⟩) hwl0).trans x3
      have r4 := fun w' (hw' : Below W2.heap.size W2 w') => (hw'.cell (p := ⟨w.heap.size + 1, 0, none⟩) hwl1).trans y0
      have r5 := fun w' (hw' : Below W2.heap.size W2 w') => (hw'.cell (p := ⟨w.heap.size + 1, 1, none⟩) hwl1).trans y1
      have r6 := fun w' (hw' : Below W2.heap.size W2 w') => (hw'.cell (p := a.add (n * 2)) hab2).trans k0
      have r7 := fun w' (hw' : Below W2.heap.size W2 w') => (hw'.cell (p := ⟨(a.add (n * 2)).block, (a.add (n * 2)).off + 1, none⟩) hab2).trans k1
      go_upto_region 3 with fail
      clear x0 x1 x2 x3 y0 y1 k0 k1
      go_region_held3 (fun w' => Below W2.heap.size W2 w')
        (first | assumption | exact Below.drew (Below.refl _ W2) | exact (Below.drew (Below.refl _ W2)).trans b3)
        (first | (go_at_call 35; refine HC.out.mono ?_; rintro e W3 ⟨rfl, b3⟩))
      all_goals
        have HB3 := Lib.hid (HB.out.trans (((Below.drew (Below.refl _ W2)).trans b3).mono HB.out.size))
        clear b3 r0 r1 r2 r3 r4 r5 r6 r7
        go_wp2
        go_ret
        exact ⟨ret_int (by rw [HRET.out]), HB3.out⟩
theorem state_all {h : Hd} {m : Nat} (hO : HdOk h m) (hm : m ≤ 400) : (∀ l, ThOk h l) ∧ ∀ t, StOk 14 h t := by
  have hT : ∀ k, ∀ l, wtTs l ≤ k → ThOk h l := by
    intro k
    induction k with
    | zero =>
      intro l hl
      refine through_step hO hm l fun t ht => ?_
      cases l with
      | nil => cases ht
      | cons t l => rw [wtTs, wtT_eq] at hl; omega
    | succ k ih =>
      intro l hl
      refine through_step hO hm l fun t ht => state_step hO t (ih t.kids ?_)
      have h1 : wtT t ≤ wtTs l := by
        clear hl
        induction l with
        | nil => cases ht
        | cons t' l ihl =>
          rw [wtTs]
          rcases List.mem_cons.1 ht with rfl | h2
          · omega
          · have := ihl h2; omega
      rw [wtT_eq] at h1
      omega
  exact ⟨fun l => hT _ l (Nat.le_refl _), fun t => state_step hO t (hT _ _ (Nat.le_refl _))⟩
end Go.Proofs.Ytbipdnnalhdoaaa
