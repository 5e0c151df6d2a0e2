/- container/heap over a queue of steps: Push, Pop. The finder in memory: its block, its queue, its two maps, its rows; each block is known by what it is for. -/
import Derived.DeepKeys5
import Derived.Test.YtnkelhmjkmeilaaGreatDoorT17
import Derived.Test.YtnkelhmjkmeilaaGreatDoorT02
import Derived.Test.YtnkelhmjkmeilaaGreatDoorT09
section
namespace Go.Proofs.YtnkelhmjkmeilaaGreatDoor.H
open Go.RowKit Go.Maps Go.WideMaps
attribute [local go_sem ↓] Go.wp_at_zero Go.wp_at_succ
theorem infoStp3 : (Tryz.prog.info? 200).map (fun i => (i.zero, i.size, i.bytes)) = some (some (.agg #[.int .i64 0, .int .i64 0, .int .i64 0, .int .i64 0, .int .i64 0]), 5, 40) := by kernel_rfl
theorem rowStp : Row Tryz.prog 242 200 5 40 := by
  obtain ⟨i, hi, hz, h1, h2⟩ := info_parts infoStp3
  exact ⟨Tryz.underlying242, ⟨i, _, hi, hz, h1, h2, rfl⟩, by decide⟩
theorem grown_cell {w w' : World} {row : Option Nat} (hg : w.grownBy w' row) {a : Addr} (hl : a.block < w.heap.size) (hn : some a.block ≠ row) : w'.cell? a = w.cell? a ∧ w'.frozen? a = w.frozen? a :=
  ⟨World.cell?_of_block (hg.block a.block hl hn), World.frozen?_of_block (hg.block a.block hl hn)⟩
theorem assert_step (v : Value) (t0 : TypeId) (w : World) : (Instr.typeAssert (.iface 200 v) t0 200 false).run Tryz.prog w = .ok v w := by kernel_rfl
def QOut (w w' : World) (base fb o : Nat) (T : TypeId) (arr : Array Value) (A : Option Addr) (n c : Nat) (q' : List Stp) : Prop :=
  ∃ A' c', QIs w' base fb o T (arr.setIfInBounds o (.slice A' q'.length c')) A' c' q' ∧ Kb w w' (fun k => k = fb ∨ (Value.slice A n c).ownBlock = some k) ∧ (∀ g, (Value.slice A' q'.length c').ownBlock = some g → (Value.slice A n c).ownBlock = some g ∨ w.heap.size ≤ g)
theorem QIs.stored {W : World} {base fb o c' : Nat} {T : TypeId} {arr : Array Value} {A' : Option Addr} {q' : List Stp} (hvar : W.heap[fb]? = some (.cells arr T (0, 0))) (ho : o < arr.size) (hr : W.ownsRow base 200 5 (.slice A' q'.length c') q'.length (stCs q')) (hne : (Value.slice A' q'.length c').ownBlock ≠ some fb) :
    QIs (W.setCell ⟨fb, o, none⟩ (.slice A' q'.length c')) base fb o T (arr.setIfInBounds o (.slice A' q'.length c')) A' c' q' :=
  ⟨heap_setCell_same W fb o arr T _ hvar, by simp [ho], ownsRow_setCell_other hr hne _, hne⟩
theorem Kb.set {w w' : World} {S : Nat → Prop} (h : Kb w w' S) {p : Addr} (hp : S p.block) (v : Value) : Kb w (w'.setCell p v) S :=
  ⟨h.os, h.tape, h.output, by rw [size_set]; exact h.size, fun k hk hn => (heap_set_other (p := p) (fun e => hn (by rw [e]; exact hp))).trans (h.block k hk hn)⟩
set_option maxHeartbeats 1000000 in
set_option maxRecDepth 100000 in
theorem qpush_any {w : World} {base fb o : Nat} {T : TypeId} {arr : Array Value} {A : Option Addr} {c : Nat} {q : List Stp} (h : QIs w base fb o T arr A c q) (hb : base ≤ w.heap.size) (hl : q.length < 1000000000000) (s : Stp) :
    Calls Tryz.prog 303 #[.pointer (some ⟨fb, o, none⟩), .iface 200 (.agg #[.int .i64 (s.num : Int), .int .i64 (s.st : Int), .int .i64 (s.cost : Int), .int .i64 s.frm, .int .i64 s.tree])] w fun e w' => e = .returned (.tuple #[]) ∧ QOut w w' base fb o T arr A q.length c (q ++ [s]) := by
  have g1 := h.cell
  have g2 := Lib.frozen_of_heap h.var o
  have hfb := h.lt
  have hne := h.ne
  have hrow := h.row
  have hvar := h.var
  have hval := h.val
  have hta := assert_step (.agg #[.int .i64 (s.num : Int), .int .i64 (s.st : Int), .int .i64 (s.cost : Int), .int .i64 s.frm, .int .i64 s.tree])
  go_enter Tryz.func303, Tryz.ntmps303
  go_wp2
  go_region_law (refine step_push (by rfl) _ _ _ (by rfl) base rowStp A q.length c _ (by rfl) ((hrow.alloc _).drew) w.heap.size 1 _ (by rfl) (heap_alloc_new w _) (by rfl) (by simp [Value.oneCell']) (by unfold maxLen; omega) (by omega) (by simp; omega) ?_; intro A6 c6 W6 hc6 ho6 hg6 hat6; have gc6 := (grown_cell hg6 (a := ⟨fb, o, none⟩) (by simp; omega) (fun e => hne e.symm)).1.trans ((World.cell?_of_block (a := ⟨fb, o, none⟩) (Below.heap_alloc w _ fb hfb)).trans g1); have gf6 := (grown_cell hg6 (a := ⟨fb, o, none⟩) (by simp; omega) (fun e => hne e.symm)).2.trans ((World.frozen?_of_block (a := ⟨fb, o, none⟩) (Below.heap_alloc w _ fb hfb)).trans g2))
  all_goals
    have ho6' : W6.ownsRow base 200 5 (.slice A6 (q ++ [s]).length c6) (q ++ [s]).length (stCs (q ++ [s])) := by
      rw [stCs_append, List.length_append]
      simpa [stCs, stC] using ho6
    have hl6 : (q ++ [s]).length = q.length + 1 := by simp
    have hfb6 : fb < W6.heap.size := by have := hg6.size; simp at this; omega
    have hvar6 : W6.heap[fb]? = some (.cells arr T (0, 0)) := (hg6.block fb (by simp; omega) (fun e => hne e.symm)).trans ((Below.heap_alloc w _ fb hfb).trans hvar)
    have HO6 := Lib.hid ho6'
    have HG6 := Lib.hid hg6
    have HA6 := Lib.hid hat6
    have HV6 := Lib.hid hvar6
    clear ho6 ho6' hg6 hat6 hvar6
    have HB6 := Lib.hid ((Below.drew ((Below.refl _ w).alloc (Nat.le_refl _) (.cells #[.int .i64 (s.num : Int), .int .i64 (s.st : Int), .int .i64 (s.cost : Int), .int .i64 s.frm, .int .i64 s.tree] 200))))
    go_wp2
    refine bodyPost_end (results_none rfl _ _ _) rfl ⟨rfl, A6, c6, ?_, ?_, ?_⟩
    · rw [← hl6]
      refine QIs.stored HV6.out (Array.getElem?_eq_some_iff.1 hval).1 HO6.out fun e => ?_
      rw [hl6] at e
      rcases HA6.out _ e with h9 | h9
      · exact hne h9
      · simp at h9; omega
    · exact Kb.set (S := fun k => k = fb ∨ (Value.slice A q.length c).ownBlock = some k) ((Kb.of_below HB6.out).trans (Kb.grown HG6.out fun k hk => Or.inr hk)) (p := ⟨fb, o, none⟩) (Or.inl rfl) _
    · intro k hk
      rw [hl6] at hk
      rcases HA6.out k hk with h9 | h9
      · exact .inl h9
      · simp at h9; exact .inr (by omega)
theorem QIs.head {w : World} {base fb o c : Nat} {T : TypeId} {arr : Array Value} {A : Option Addr} {q : List Stp} (h : QIs w base fb o T arr A c q) (hn : 0 < q.length) : ∃ g, A = some ⟨g, 0, none⟩ := by
  obtain ⟨g, cap, hv, _, _⟩ := h.row.form hn
  injection hv with hv
  exact ⟨g, hv⟩
theorem cs_push {q : List Stp} {s : Stp} {k : Nat} (hk : k < q.length) : cs (q ++ [s]) k = cs q k := by unfold cs; rw [List.getElem?_append_left hk]
set_option maxHeartbeats 1000000 in
set_option maxRecDepth 100000 in
theorem hpush_any {w : World} {base fb o : Nat} {T : TypeId} {arr : Array Value} {A : Option Addr} {c : Nat} {q : List Stp} (h : QIs w base fb o T arr A c q) (hb : base ≤ w.heap.size) (hl : q.length < 1000000000000) (s : Stp) (hH : Heap q) :
    Calls Tryz.prog 186 #[.iface 247 (.pointer (some ⟨fb, o, none⟩)), .iface 200 (.agg #[.int .i64 (s.num : Int), .int .i64 (s.st : Int), .int .i64 (s.cost : Int), .int .i64 s.frm, .int .i64 s.tree])] w fun e w' =>
      e = .returned (.tuple #[]) ∧ ∃ q', q'.Perm (s :: q) ∧ Heap q' ∧ QOut w w' base fb o T arr A q.length c q' := by
  have mP := mth_push ⟨fb, o, none⟩
  have HQ := Lib.hid h
  clear h
  go_enter Tryz.func186, Tryz.ntmps186
  go_wp2_with fail
  refine (qpush_any HQ.out hb hl s).mono ?_
  rintro e W1 ⟨rfl, A1, c1, h1, k1, a1⟩
  have hll : (q ++ [s]).length = q.length + 1 := by simp
  obtain ⟨g, rfl⟩ := h1.head (by omega)
  have mL := mth_len h1.cell
  have HQ1 := Lib.hid h1
  have HK1 := Lib.hid k1
  have HA1 := Lib.hid a1
  clear h1 k1 a1 mP
  rw [hll] at mL
  go_wp2_with fail
  refine qlen_any.mono ?_
  rintro e W1 ⟨rfl, rfl⟩
  have hU : UpI (cs (q ++ [s])) (q ++ [s]).length q.length := by rw [hll]; exact UpI.start hH fun k hk => cs_push hk
  have HU := Lib.hid hU
  have hq1 : q.length < (q ++ [s]).length := by omega
  have hq2 : (q ++ [s]).length ≤ 1000000000000 := by omega
  clear mL hU
  go_wp2_with fail
  refine (up_any HQ1.out hq1 HU.out hq2).mono ?_
  rintro e W2 ⟨rfl, q', h2, hp, hh, k2⟩
  have hpl := hp.length_eq
  have HR := Lib.hid (show q'.Perm (s :: q) ∧ Heap q' ∧ QOut w W2 base fb o T arr A q.length c q' from by
    have ha := HA1.out
    rw [← hpl] at ha h2
    refine ⟨hp.trans (by simp), hh, _, c1, h2, ?_, ha⟩
    have hk1 := HK1.out
    refine ⟨k2.os.trans hk1.os, k2.tape.trans hk1.tape, k2.output.trans hk1.output, Nat.le_trans hk1.size k2.size, fun k hk hn => ?_⟩
    refine (k2.block k (Nat.lt_of_lt_of_le hk hk1.size) fun e => ?_).trans (hk1.block k hk hn)
    subst e
    rcases ha k rfl with h9 | h9
    · exact hn (.inr h9)
    · omega)
  clear hp hh k2 h2 hpl
  go_wp2
  exact bodyPost_end (results_none rfl _ _ _) rfl ⟨rfl, q', HR.out⟩
theorem stCs_snoc (r : List Stp) (s : Stp) : stCs (r ++ [s]) = stCs r ++ stC s := by rw [stCs_append]; simp [stCs]
set_option maxHeartbeats 1000000 in
set_option maxRecDepth 100000 in
theorem qpop_any {w : World} {base fb o g : Nat} {T : TypeId} {arr : Array Value} {c : Nat} {r : List Stp} {s : Stp} (h : QIs w base fb o T arr (some ⟨g, 0, none⟩) c (r ++ [s])) (hl : r.length < 1000000000000) :
    Calls Tryz.prog 302 #[.pointer (some ⟨fb, o, none⟩)] w fun e w' => e = .returned (.iface 200 (.agg #[.int .i64 (s.num : Int), .int .i64 (s.st : Int), .int .i64 (s.cost : Int), .int .i64 s.frm, .int .i64 s.tree])) ∧
      QIs w' base fb o T (arr.setIfInBounds o (.slice (some ⟨g, 0, none⟩) r.length c)) (some ⟨g, 0, none⟩) c r ∧ Kb w w' (· = fb) := by
  have hll : (r ++ [s]).length = r.length + 1 := by simp
  have g1 := h.cell
  have g2 := Lib.frozen_of_heap h.var o
  have hfb := h.lt
  have hrow := h.row
  rw [hll] at g1 hrow
  have hrow2 := hrow
  rw [stCs_snoc] at hrow2
  have hpop := ownsRow_pop (size := 5) (n := r.length) (xs := stCs r) (stCs_length r) hrow2
  obtain ⟨g', cur, hA, hbg, hg, hn, hnc, hm, hs, hat⟩ := own_at hrow (by omega)
  injection hA with hA
  injection hA with hA
  subst hA
  have hk : r.length < (r ++ [s]).length := by omega
  have hsl : (r ++ [s])[r.length] = s := by simp
  have i0 := (Lib.cell_of_heap hg (r.length * 5 + 0)).trans (hat r.length hk 0 (by omega))
  have i1 := (Lib.cell_of_heap hg (r.length * 5 + 1)).trans (hat r.length hk 1 (by omega))
  have i2 := (Lib.cell_of_heap hg (r.length * 5 + 2)).trans (hat r.length hk 2 (by omega))
  have i3 := (Lib.cell_of_heap hg (r.length * 5 + 3)).trans (hat r.length hk 3 (by omega))
  have i4 := (Lib.cell_of_heap hg (r.length * 5 + 4)).trans (hat r.length hk 4 (by omega))
  simp only [hsl, stC, List.getElem?_cons_zero, List.getElem?_cons_succ, Nat.add_zero] at i0 i1 i2 i3 i4
  have hne : g ≠ fb := fun e => h.ne (by rw [e]; rfl)
  have HV := Lib.hid h.var
  have HVal := Lib.hid h.val
  have HP := Lib.hid hpop
  have hrc : r.length ≤ c := by omega
  obtain ⟨n, hnr⟩ : ∃ n, n = r.length := ⟨_, rfl⟩
  have HN := Lib.hid hnr
  rw [← hnr] at g1 i0 i1 i2 i3 i4 hl hrc
  clear h hrow hrow2 hpop hg hat hn hnr hll hk hsl hs
  go_enter Tryz.func302, Tryz.ntmps302
  have hst : QIs (w.setCell ⟨fb, o, none⟩ (.slice (some ⟨g, 0, none⟩) r.length c)) base fb o T (arr.setIfInBounds o (.slice (some ⟨g, 0, none⟩) r.length c)) (some ⟨g, 0, none⟩) c r :=
    QIs.stored HV.out (Array.getElem?_eq_some_iff.1 HVal.out).1 HP.out (fun e => hne (by injection e))
  have hkb : Kb w (w.setCell ⟨fb, o, none⟩ (.slice (some ⟨g, 0, none⟩) r.length c)) (· = fb) := Kb.set (S := fun k => k = fb) (Kb.refl _ _) (p := ⟨fb, o, none⟩) rfl _
  have HST := Lib.hid hst
  have HKB := Lib.hid hkb
  clear hst hkb
  go_wp2
  go_ret
  rw [HN.out]
  exact ⟨rfl, HST.out.below ((Below.refl _ _).alloc (Nat.le_refl _) _), HKB.out.trans (Kb.of_below ((Below.refl _ _).alloc (Nat.le_refl _) _))⟩
theorem sw_last {q : List Stp} {n : Nat} (hn : q.length = n + 1) (h0 : 0 < q.length) : (sw q 0 n)[n]? = some q[0] := by
  rw [sw_at h0 (by omega), if_pos rfl, List.getElem?_eq_getElem h0]
set_option maxHeartbeats 2000000 in
set_option maxRecDepth 100000 in
theorem hpop_any {w : World} {base fb o : Nat} {T : TypeId} {arr : Array Value} {A : Option Addr} {c : Nat} {q : List Stp} (h : QIs w base fb o T arr A c q) (hq : 0 < q.length) (hl : q.length < 1000000000000) (hH : Heap q) :
    Calls Tryz.prog 152 #[.iface 247 (.pointer (some ⟨fb, o, none⟩))] w fun e w' =>
      ∃ s q', e = .returned (.iface 200 (.agg #[.int .i64 (s.num : Int), .int .i64 (s.st : Int), .int .i64 (s.cost : Int), .int .i64 s.frm, .int .i64 s.tree])) ∧ q.Perm (s :: q') ∧ (∀ x ∈ q, s.cost ≤ x.cost) ∧ Heap q' ∧ QOut w w' base fb o T arr A q.length c q' := by
  obtain ⟨g, rfl⟩ := h.head hq
  obtain ⟨n, hn⟩ : ∃ n, q.length = n + 1 := ⟨q.length - 1, by omega⟩
  have mL := mth_len h.cell
  have mS := mth_swap h.cell
  have HQ := Lib.hid h
  have hnl : n < 1000000000000 := by omega
  have HN := Lib.hid hn
  clear h
  rw [hn] at mL
  go_enter Tryz.func152, Tryz.ntmps152
  go_wp2_with fail
  refine qlen_any.mono ?_
  rintro e w ⟨rfl, rfl⟩
  have hS := swap_any HQ.out.row (i := 0) (j := n) hq (by omega)
  rw [hn, show ((0 : Nat) : Int) = 0 from rfl] at hS
  have HS := Lib.hid hS
  clear mL hS
  go_wp2_with fail
  refine HS.out.mono ?_
  rintro e W1 ⟨rfl, hr, hg, hs⟩
  rw [← hn] at hr
  have hsl := sw_length q 0 n
  have hQ1 := HQ.out.swap hsl hr hg
  have hK1 : Kb w W1 (· = g) := Kb.grown hg (fun k e => by injection e with e; exact e.symm)
  have hI : DnI (cs (sw q 0 n)) n 0 := DnI.start (by rw [← hn]; exact hH) fun k hk hkn => by rw [sw_cs hq (by omega), if_neg (by omega), if_neg (by omega)]
  have HQ1 := Lib.hid hQ1
  have HK1 := Lib.hid hK1
  have HI := Lib.hid hI
  have HSL := Lib.hid hsl
  clear hr hg hs hsl hQ1 hK1 hI mS
  go_wp2_with fail
  refine (down_any HQ1.out (by rw [HSL.out]; omega) HI.out (by rw [HSL.out]; omega)).mono ?_
  rintro e W2 ⟨⟨b, rfl⟩, q2, hQ2, hp2, hh2, hk2, hkb2⟩
  have hl2 : q2.length = n + 1 := by rw [hp2.length_eq, HSL.out]; exact HN.out
  have hlast : q2[n]? = some q[0] := by rw [hk2 n (Nat.le_refl _)]; exact sw_last HN.out hq
  obtain ⟨r, s, rfl⟩ : ∃ r s, q2 = r ++ [s] := by
    rcases List.eq_nil_or_concat q2 with h | ⟨r, s, h⟩
    · rw [h] at hl2; simp at hl2
    · exact ⟨r, s, by rw [h, List.concat_eq_append]⟩
  have hrn : r.length = n := by simp at hl2; exact hl2
  have hs0 : s = q[0] := by
    rw [← hrn] at hlast
    simp at hlast
    exact hlast
  have hperm : q.Perm (s :: r) := ((hp2.trans (sw_perm q 0 n)).symm).trans (by simp)
  have hmin : ∀ x ∈ q, s.cost ≤ x.cost := by
    intro x hx
    obtain ⟨k, hk, rfl⟩ := List.mem_iff_getElem.1 hx
    have := HO.min hH k hk
    rw [cs_at hq, cs_at hk, ← hs0] at this
    exact this
  have hHr : Heap r := by
    intro i hi hir
    rw [hrn] at hir
    have h1 := hh2 i hi hir
    rw [cs_push (by omega), cs_push (by omega)] at h1
    exact h1
  have mPop := mth_pop ⟨fb, o, none⟩
  have HQ2 := Lib.hid hQ2
  have HR := Lib.hid (And.intro hperm (And.intro hmin hHr))
  have HK2 := Lib.hid (HK1.out.trans hkb2)
  have HRN := Lib.hid hrn
  clear hQ2 hp2 hh2 hk2 hkb2 hl2 hlast hrn hs0 hperm hmin hHr
  go_wp2_with fail
  refine (qpop_any HQ2.out (by rw [HRN.out]; exact hnl)).mono ?_
  rintro e W3 ⟨rfl, hQ3, hK3⟩
  have HQ3 := Lib.hid hQ3
  have HK3 := Lib.hid hK3
  clear hQ3 hK3 mPop
  go_wp2
  go_ret
  refine ⟨s, r, rfl, HR.out.1, HR.out.2.1, HR.out.2.2, some ⟨g, 0, none⟩, c, HQ3.out, (HK2.out.more fun k hk => .inr (by rw [hk]; rfl)).trans (HK3.out.more fun k hk => .inl hk), fun k hk => .inl hk⟩
end Go.Proofs.YtnkelhmjkmeilaaGreatDoor.H
end
section
namespace Go.Proofs.YtnkelhmjkmeilaaGreatDoor.H
open Go.RowKit Go.Maps Go.WideMaps
attribute [local go_sem ↓] Go.wp_at_zero Go.wp_at_succ
def plV (a b : Nat) : Value := .agg #[.int .i64 (a : Int), .int .i64 (b : Int)]
theorem placeK : Keyed Tryz.prog 198 := Keyed.of_law (deep_law_gate laidOut (of_decide_eq_true (by kernel_rfl)) (of_decide_eq_true (by kernel_rfl)) (by kernel_rfl) (by kernel_rfl))
theorem intK : Keyed Tryz.prog 3 := int_keyed Tryz.underlying3
theorem int_wf {a : Nat} (h : a ≤ 1000000000000) : (Lit.int .i64 (a : Int)).wf = true := by
  have h1 : IntKind.i64.min = -9223372036854775808 := by decide
  have h2 : IntKind.i64.max = 9223372036854775807 := by decide
  rw [Lit.wf, Bool.and_eq_true, decide_eq_true_eq, decide_eq_true_eq, h1, h2]
  omega
theorem keyPl {a b : Nat} (ha : a ≤ 1000000000000) (hb : b ≤ 1000000000000) : ∃ l, keyOf Tryz.prog 198 (plV a b) = some l := by
  have wa := int_wf ha
  have wb := int_wf hb
  have hk : Tryz.prog.keyType 198 = true := by kernel_rfl
  have hc : Tryz.prog.cellsOf 198 = 2 := by kernel_rfl
  have hi : Tryz.prog.cellsOf 3 = 1 := by kernel_rfl
  obtain ⟨m, hm⟩ : ∃ m, Tryz.prog.types.size + 1 = m + 2 := ⟨Tryz.prog.types.size - 1, by
    have : 0 < Tryz.prog.types.size := of_decide_eq_true (by kernel_rfl)
    omega⟩
  unfold keyOf
  simp only [Tryz.underlying198]
  rw [if_pos (by simp [hk, plV, Value.formed, Tryz.underlying198, hc]), hm]
  refine ⟨.string (keyBytes [.int .i64 (a : Int), .int .i64 (b : Int)]), ?_⟩
  unfold Program.keyLits
  simp only [Tryz.underlying198, plV, Value.cells]
  rw [if_pos ⟨by rw [hc]; rfl, by simp⟩]
  simp [Program.keyLits, Tryz.underlying3, wa, wb, hi]
theorem keyIn {a : Nat} (ha : a ≤ 1000000000000) : keyOf Tryz.prog 3 (.int .i64 (a : Int)) = some (.int .i64 (a : Int)) := keyOf_int_mk Tryz.underlying3 (int_wf ha)
structure Src where
  num : Nat
  st : Nat
  cost : Nat
structure FS where
  q : List Stp
  mar : Nat → Nat → Option (Stp × Bool)
  met : List (List Nat)
  trees : List Nat
  fnd : Nat → Option Src
def mkV (x : Stp × Bool) : Value := .agg #[.int .i64 (x.1.num : Int), .int .i64 (x.1.st : Int), .int .i64 (x.1.cost : Int), .int .i64 x.1.frm, .int .i64 x.1.tree, .bool x.2]
def mkZ : Value := .agg #[.int .i64 0, .int .i64 0, .int .i64 0, .int .i64 0, .int .i64 0, .bool false]
def srV (x : Src) : Value := .agg #[.int .i64 (x.num : Int), .int .i64 (x.st : Int), .int .i64 (x.cost : Int)]
def srZ : Value := .agg #[.int .i64 0, .int .i64 0, .int .i64 0]
theorem zMk (w : World) : (zeroValue 249).run Tryz.prog w = .ok mkZ w := by kernel_rfl
theorem zSr (w : World) : (zeroValue 252).run Tryz.prog w = .ok srZ w := by kernel_rfl
def mkF (m : Nat → Nat → Option (Stp × Bool)) : Value → Option Value
  | .agg cs => match cs.toList with
    | [.int .i64 a, .int .i64 b] => if 0 ≤ a ∧ 0 ≤ b then (m a.toNat b.toNat).map mkV else none
    | _ => none
  | _ => none
def fnF (m : Nat → Option Src) : Value → Option Value
  | .int .i64 a => if 0 ≤ a then (m a.toNat).map srV else none
  | _ => none
theorem mkF_at (m : Nat → Nat → Option (Stp × Bool)) (a b : Nat) : mkF m (plV a b) = (m a b).map mkV := by
  simp [mkF, plV]
theorem fnF_at (m : Nat → Option Src) (a : Nat) : fnF m (.int .i64 (a : Int)) = (m a).map srV := by simp [fnF]
def upM (m : Nat → Nat → Option (Stp × Bool)) (a b : Nat) (x : Stp × Bool) : Nat → Nat → Option (Stp × Bool) := fun c d => if c = a ∧ d = b then some x else m c d
def upF (m : Nat → Option Src) (a : Nat) (x : Src) : Nat → Option Src := fun c => if c = a then some x else m c
theorem mkF_up (m : Nat → Nat → Option (Stp × Bool)) (a b : Nat) (x : Stp × Bool) : mkF (upM m a b x) (plV a b) = some (mkV x) := by rw [mkF_at, upM, if_pos ⟨rfl, rfl⟩]; rfl
theorem mkF_ne (m : Nat → Nat → Option (Stp × Bool)) (a b : Nat) (x : Stp × Bool) : ∀ v, v ≠ plV a b → mkF (upM m a b x) v = mkF m v := by
  intro v hv
  unfold mkF
  split
  · rename_i cs
    split
    · rename_i c d hcs
      split
      · rename_i h0
        have : ¬ (c.toNat = a ∧ d.toNat = b) := by
          rintro ⟨e1, e2⟩
          apply hv
          have : cs = #[.int .i64 c, .int .i64 d] := by
            rw [← Array.toList_inj]; simp [hcs]
          rw [this, plV, ← e1, ← e2, Int.toNat_of_nonneg h0.1, Int.toNat_of_nonneg h0.2]
        rw [upM, if_neg this]
      · rfl
    · rfl
  · rfl
theorem fnF_up (m : Nat → Option Src) (a : Nat) (x : Src) : fnF (upF m a x) (.int .i64 (a : Int)) = some (srV x) := by rw [fnF_at, upF, if_pos rfl]; rfl
theorem fnF_ne (m : Nat → Option Src) (a : Nat) (x : Src) : ∀ v, v ≠ .int .i64 (a : Int) → fnF (upF m a x) v = fnF m v := by
  intro v hv
  unfold fnF
  split
  · rename_i c
    split
    · rename_i h0
      have : ¬ c.toNat = a := by
        intro e1
        apply hv
        rw [← e1, Int.toNat_of_nonneg h0]
      rw [upF, if_neg this]
    · rfl
  · rfl
inductive FR where
  | fin | que | mkm | fnm | metr | met (i : Nat) | tre
def FR.rowy : FR → Bool
  | .metr => true | .met _ => true | .tre => true
  | _ => false
abbrev FOwn := Nat → Option FR
def FOwn.put (o : FOwn) (v : Value) (r : FR) : FOwn := fun q => match o q with | some x => some x | none => if v.ownBlock = some q then some r else none
theorem FOwn.put_le (o : FOwn) (v : Value) (r x : FR) (q : Nat) (h : o q = some x) : o.put v r q = some x := by simp only [FOwn.put, h]
theorem FOwn.put_is {o : FOwn} {v : Value} {r : FR} {q : Nat} (hq : v.ownBlock = some q) (h : o q = none ∨ o q = some r) : o.put v r q = some r := by
  rcases h with h | h <;> simp [FOwn.put, h, hq]
theorem FOwn.put_inv {o : FOwn} {v : Value} {r x : FR} {q : Nat} (h : o.put v r q = some x) : o q = some x ∨ (v.ownBlock = some q ∧ x = r) := by
  unfold FOwn.put at h
  split at h
  · rename_i y hy; exact .inl (by rw [hy]; exact h)
  · split at h
    · rename_i hv; injection h with h; exact .inr ⟨hv, h.symm⟩
    · cases h
def nats (l : List Nat) : List Value := l.map fun (i : Nat) => Value.int .i64 (i : Int)
theorem nats_at {l : List Nat} {k : Nat} (hk : k < l.length) : (nats l)[k]? = some (.int .i64 (l[k] : Int)) := by simp [nats, hk]
theorem nats_append (l m : List Nat) : nats (l ++ m) = nats l ++ nats m := by simp [nats]
structure FIs (w : World) (own : FOwn) (base fb mm mf : Nat) (mv : Value) (f : FS) : Prop where
  lt : ∀ q r, own q = some r → base ≤ q ∧ q < w.heap.size
  fin : own fb = some .fin
  mkm : own mm = some .mkm
  fnm : own mf = some .fnm
  blk : ∃ A c AM cM AT cT MV, w.heap[fb]? = some (.cells #[mv, .slice A f.q.length c, .map (some mm), .slice AM f.met.length cM, .slice AT f.trees.length cT, .map (some mf)] 244 (0, 0)) ∧
    (w.ownsRow base 200 5 (.slice A f.q.length c) f.q.length (stCs f.q) ∧ ∀ q, (Value.slice A f.q.length c).ownBlock = some q → own q = some .que) ∧
    (w.ownsRow base 111 1 (.slice AM f.met.length cM) f.met.length MV ∧ ∀ q, (Value.slice AM f.met.length cM).ownBlock = some q → own q = some .metr) ∧
    (∀ i (hi : i < f.met.length), ∃ A' c', MV[i]? = some (.slice A' f.met[i].length c') ∧ w.ownsRow base 3 1 (.slice A' f.met[i].length c') f.met[i].length (nats f.met[i]) ∧ ∀ q, (Value.slice A' f.met[i].length c').ownBlock = some q → own q = some (.met i)) ∧
    (w.ownsRow base 3 1 (.slice AT f.trees.length cT) f.trees.length (nats f.trees) ∧ ∀ q, (Value.slice AT f.trees.length cT).ownBlock = some q → own q = some .tre)
  mks : ∃ n, MapIs Tryz.prog 198 w mm n (mkF f.mar)
  fns : ∃ n, MapIs Tryz.prog 3 w mf n (fnF f.fnd)
theorem fown_block {w w' : World} {base z n : Nat} {e : TypeId} {v : Value} {xs : List Value} (h : w.ownsRow base e z v n xs) (hk : ∀ q, v.ownBlock = some q → w'.heap[q]? = w.heap[q]?) : w'.ownsRow base e z v n xs := by
  refine ⟨h.1, ?_⟩
  rcases h.2 with h0 | ⟨g, cap, cur, rfl, hb, hh, rest⟩
  · exact .inl h0
  · exact .inr ⟨g, cap, cur, rfl, hb, (hk g rfl).trans hh, rest⟩
section
variable {w w' : World} {own own' : FOwn} {base fb mm mf : Nat} {mv : Value} {f : FS}
theorem FIs.keep (h : FIs w own base fb mm mf mv f) (hs : w.heap.size ≤ w'.heap.size) (hk : ∀ q r, own q = some r → w'.heap[q]? = w.heap[q]?) : FIs w' own base fb mm mf mv f := by
  obtain ⟨h1, h2, h3, h4, ⟨A, c, AM, cM, AT, cT, MV, b1, ⟨b2, b3⟩, ⟨b4, b5⟩, b6, ⟨b7, b8⟩⟩, ⟨n, h6⟩, ⟨n', h7⟩⟩ := h
  refine ⟨fun q r hq => ⟨(h1 q r hq).1, Nat.lt_of_lt_of_le (h1 q r hq).2 hs⟩, h2, h3, h4, ⟨A, c, AM, cM, AT, cT, MV, (hk fb _ h2).trans b1, ⟨fown_block b2 fun q hq => hk q _ (b3 q hq), b3⟩, ⟨fown_block b4 fun q hq => hk q _ (b5 q hq), b5⟩, fun i hi => ?_, ⟨fown_block b7 fun q hq => hk q _ (b8 q hq), b8⟩⟩, ⟨n, h6.block (hk mm _ h3)⟩, ⟨n', h7.block (hk mf _ h4)⟩⟩
  obtain ⟨A', c', e1, e2, e3⟩ := b6 i hi
  exact ⟨A', c', e1, fown_block e2 fun q hq => hk q _ (e3 q hq), e3⟩
theorem FIs.below {B : Nat} (h : FIs w own base fb mm mf mv f) (hb : Below B w w') (hB : w.heap.size ≤ B) : FIs w' own base fb mm mf mv f :=
  h.keep hb.size fun q r hq => hb.block q (by have := (h.lt q r hq).2; omega)
end
end Go.Proofs.YtnkelhmjkmeilaaGreatDoor.H
end
