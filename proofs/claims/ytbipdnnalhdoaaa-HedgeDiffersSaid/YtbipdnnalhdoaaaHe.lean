/- container/heap over a queue of steps: Push, Pop. -/
import Derived.Test.YtbipdnnalhdoaaaHd
namespace Go.Proofs.Ytbipdnnalhdoaaa
open Go.RowKit Go.Maps Go.WideMaps
attribute [local go_sem ↓] Go.wp_at_zero Go.wp_at_succ

theorem infoStp3 : (Try.prog.info? 72).map (fun i => (i.zero, i.size, i.bytes)) = some (some (.agg #[.int .i64 0, .int .i64 0, .int .i64 0, .int .i64 0, .int .i64 0]), 5, 40) := by kernel_rfl
theorem rowStp : Row Try.prog 81 72 5 40 := by
  obtain ⟨i, hi, hz, h1, h2⟩ := info_parts infoStp3
  exact ⟨Try.underlying81, ⟨i, _, hi, hz, h1, h2, rfl⟩, by decide⟩
theorem grown_cell {w w' : World} {row : Option Nat} (hg : w.grownBy w' row) {a : Addr} (hl : a.block < w.heap.size) (hn : some a.block ≠ row) : w'.cell? a = w.cell? a ∧ w'.frozen? a = w.frozen? a :=
  ⟨World.cell?_of_block (hg.block a.block hl hn), World.frozen?_of_block (hg.block a.block hl hn)⟩

theorem assert_step (v : Value) (t0 : TypeId) (w : World) : (Instr.typeAssert (.iface 72 v) t0 72 false).run Try.prog w = .ok v w := by kernel_rfl

/-- the queue has become q', in the block of old or in a new one -/
def QOut (w w' : World) (base fb o : Nat) (T : TypeId) (arr : Array Value) (A : Option Addr) (n c : Nat) (q' : List Stp) : Prop :=
  ∃ A' c', QIs w' base fb o T (arr.setIfInBounds o (.slice A' q'.length c')) A' c' q' ∧ Kb w w' (fun k => k = fb ∨ (Value.slice A n c).ownBlock = some k) ∧ (∀ g, (Value.slice A' q'.length c').ownBlock = some g → (Value.slice A n c).ownBlock = some g ∨ w.heap.size ≤ g)

theorem QIs.stored {W : World} {base fb o c' : Nat} {T : TypeId} {arr : Array Value} {A' : Option Addr} {q' : List Stp} (hvar : W.heap[fb]? = some (.cells arr T (0, 0))) (ho : o < arr.size) (hr : W.ownsRow base 72 5 (.slice A' q'.length c') q'.length (stCs q')) (hne : (Value.slice A' q'.length c').ownBlock ≠ some fb) :
    QIs (W.setCell ⟨fb, o, none⟩ (.slice A' q'.length c')) base fb o T (arr.setIfInBounds o (.slice A' q'.length c')) A' c' q' :=
  ⟨heap_setCell_same W fb o arr T _ hvar, by simp [ho], ownsRow_setCell_other hr hne _, hne⟩
theorem Kb.set {w w' : World} {S : Nat → Prop} (h : Kb w w' S) {p : Addr} (hp : S p.block) (v : Value) : Kb w (w'.setCell p v) S :=
  ⟨h.os, h.tape, h.output, by rw [size_set]; exact h.size, fun k hk hn => (heap_set_other (p := p) (fun e => hn (by rw [e]; exact hp))).trans (h.block k hk hn)⟩

set_option maxHeartbeats 1000000 in
set_option maxRecDepth 100000 in
theorem qpush_any {w : World} {base fb o : Nat} {T : TypeId} {arr : Array Value} {A : Option Addr} {c : Nat} {q : List Stp} (h : QIs w base fb o T arr A c q) (hb : base ≤ w.heap.size) (hl : q.length < 1000000000000) (s : Stp) :
    Calls Try.prog 85 #[.pointer (some ⟨fb, o, none⟩), .iface 72 (.agg #[.int .i64 (s.num : Int), .int .i64 (s.st : Int), .int .i64 (s.cost : Int), .int .i64 s.frm, .int .i64 s.tree])] w fun e w' => e = .returned (.tuple #[]) ∧ QOut w w' base fb o T arr A q.length c (q ++ [s]) := by
  have g1 := h.cell
  have g2 := Lib.frozen_of_heap h.var o
  have hfb := h.lt
  have hne := h.ne
  have hrow := h.row
  have hvar := h.var
  have hval := h.val
  have hta := assert_step (.agg #[.int .i64 (s.num : Int), .int .i64 (s.st : Int), .int .i64 (s.cost : Int), .int .i64 s.frm, .int .i64 s.tree])
  go_enter Try.func85, Try.ntmps85
  go_wp2
  go_region_law (refine step_push (by rfl) _ _ _ (by rfl) base rowStp A q.length c _ (by rfl) ((hrow.alloc _).drew) w.heap.size 1 _ (by rfl) (heap_alloc_new w _) (by rfl) (by simp [Value.oneCell']) (by unfold maxLen; omega) (by omega) (by simp; omega) ?_; intro A6 c6 W6 hc6 ho6 hg6 hat6; have gc6 := (grown_cell hg6 (a := ⟨fb, o, none⟩) (by simp; omega) (fun e => hne e.symm)).1.trans ((World.cell?_of_block (a := ⟨fb, o, none⟩) (Below.heap_alloc w _ fb hfb)).trans g1); have gf6 := (grown_cell hg6 (a := ⟨fb, o, none⟩) (by simp; omega) (fun e => hne e.symm)).2.trans ((World.frozen?_of_block (a := ⟨fb, o, none⟩) (Below.heap_alloc w _ fb hfb)).trans g2))
  all_goals
    have ho6' : W6.ownsRow base 72 5 (.slice A6 (q ++ [s]).length c6) (q ++ [s]).length (stCs (q ++ [s])) := by
      rw [stCs_append, List.length_append]
      simpa [stCs, stC] using ho6
    have hl6 : (q ++ [s]).length = q.length + 1 := by simp
    have hfb6 : fb < W6.heap.size := by have := hg6.size; simp at this; omega
    have hvar6 : W6.heap[fb]? = some (.cells arr T (0, 0)) := (hg6.block fb (by simp; omega) (fun e => hne e.symm)).trans ((Below.heap_alloc w _ fb hfb).trans hvar)
    have HO6 := Lib.hid ho6'
    have HG6 := Lib.hid hg6
    have HA6 := Lib.hid hat6
    have HV6 := Lib.hid hvar6
    clear ho6 ho6' hg6 hat6 hvar6
    have HB6 := Lib.hid ((Below.drew ((Below.refl _ w).alloc (Nat.le_refl _) (.cells #[.int .i64 (s.num : Int), .int .i64 (s.st : Int), .int .i64 (s.cost : Int), .int .i64 s.frm, .int .i64 s.tree] 72))))
    go_wp2
    refine bodyPost_end (results_none rfl _ _ _) rfl ⟨rfl, A6, c6, ?_, ?_, ?_⟩
    · rw [← hl6]
      refine QIs.stored HV6.out (Array.getElem?_eq_some_iff.1 hval).1 HO6.out fun e => ?_
      rw [hl6] at e
      rcases HA6.out _ e with h9 | h9
      · exact hne h9
      · simp at h9; omega
    · exact Kb.set (S := fun k => k = fb ∨ (Value.slice A q.length c).ownBlock = some k) ((Kb.of_below HB6.out).trans (Kb.grown HG6.out fun k hk => Or.inr hk)) (p := ⟨fb, o, none⟩) (Or.inl rfl) _
    · intro k hk
      rw [hl6] at hk
      rcases HA6.out k hk with h9 | h9
      · exact .inl h9
      · simp at h9; exact .inr (by omega)

theorem QIs.head {w : World} {base fb o c : Nat} {T : TypeId} {arr : Array Value} {A : Option Addr} {q : List Stp} (h : QIs w base fb o T arr A c q) (hn : 0 < q.length) : ∃ g, A = some ⟨g, 0, none⟩ := by
  obtain ⟨g, cap, hv, _, _⟩ := h.row.form hn
  injection hv with hv
  exact ⟨g, hv⟩
theorem cs_push {q : List Stp} {s : Stp} {k : Nat} (hk : k < q.length) : cs (q ++ [s]) k = cs q k := by unfold cs; rw [List.getElem?_append_left hk]

set_option maxHeartbeats 1000000 in
set_option maxRecDepth 100000 in
/-- heap.Push -/
theorem hpush_any {w : World} {base fb o : Nat} {T : TypeId} {arr : Array Value} {A : Option Addr} {c : Nat} {q : List Stp} (h : QIs w base fb o T arr A c q) (hb : base ≤ w.heap.size) (hl : q.length < 1000000000000) (s : Stp) (hH : Heap q) :
    Calls Try.prog 54 #[.iface 94 (.pointer (some ⟨fb, o, none⟩)), .iface 72 (.agg #[.int .i64 (s.num : Int), .int .i64 (s.st : Int), .int .i64 (s.cost : Int), .int .i64 s.frm, .int .i64 s.tree])] w fun e w' =>
      e = .returned (.tuple #[]) ∧ ∃ q', q'.Perm (s :: q) ∧ Heap q' ∧ QOut w w' base fb o T arr A q.length c q' := by
  have mP := mth_push ⟨fb, o, none⟩
  have HQ := Lib.hid h
  clear h
  go_enter Try.func54, Try.ntmps54
  go_wp2_with fail
  refine (qpush_any HQ.out hb hl s).mono ?_
  rintro e W1 ⟨rfl, A1, c1, h1, k1, a1⟩
  have hll : (q ++ [s]).length = q.length + 1 := by simp
  obtain ⟨g, rfl⟩ := h1.head (by omega)
  have mL := mth_len h1.cell
  have HQ1 := Lib.hid h1
  have HK1 := Lib.hid k1
  have HA1 := Lib.hid a1
  clear h1 k1 a1 mP
  rw [hll] at mL
  go_wp2_with fail
  refine qlen_any.mono ?_
  rintro e W1 ⟨rfl, rfl⟩
  have hU : UpI (cs (q ++ [s])) (q ++ [s]).length q.length := by rw [hll]; exact UpI.start hH fun k hk => cs_push hk
  have HU := Lib.hid hU
  have hq1 : q.length < (q ++ [s]).length := by omega
  have hq2 : (q ++ [s]).length ≤ 1000000000000 := by omega
  clear mL hU
  go_wp2_with fail
  refine (up_any HQ1.out hq1 HU.out hq2).mono ?_
  rintro e W2 ⟨rfl, q', h2, hp, hh, k2⟩
  have hpl := hp.length_eq
  have HR := Lib.hid (show q'.Perm (s :: q) ∧ Heap q' ∧ QOut w W2 base fb o T arr A q.length c q' from by
    have ha := HA1.out
    rw [← hpl] at ha h2
    refine ⟨hp.trans (by simp), hh, _, c1, h2, ?_, ha⟩
    have hk1 := HK1.out
    refine ⟨k2.os.trans hk1.os, k2.tape.trans hk1.tape, k2.output.trans hk1.output, Nat.le_trans hk1.size k2.size, fun k hk hn => ?_⟩
    refine (k2.block k (Nat.lt_of_lt_of_le hk hk1.size) fun e => ?_).trans (hk1.block k hk hn)
    subst e
    rcases ha k rfl with h9 | h9
    · exact hn (.inr h9)
    · omega)
  clear hp hh k2 h2 hpl
  go_wp2
  exact bodyPost_end (results_none rfl _ _ _) rfl ⟨rfl, q', HR.out⟩

theorem stCs_snoc (r : List Stp) (s : Stp) : stCs (r ++ [s]) = stCs r ++ stC s := by rw [stCs_append]; simp [stCs]
set_option maxHeartbeats 1000000 in
set_option maxRecDepth 100000 in
theorem qpop_any {w : World} {base fb o g : Nat} {T : TypeId} {arr : Array Value} {c : Nat} {r : List Stp} {s : Stp} (h : QIs w base fb o T arr (some ⟨g, 0, none⟩) c (r ++ [s])) (hl : r.length < 1000000000000) :
    Calls Try.prog 84 #[.pointer (some ⟨fb, o, none⟩)] w fun e w' => e = .returned (.iface 72 (.agg #[.int .i64 (s.num : Int), .int .i64 (s.st : Int), .int .i64 (s.cost : Int), .int .i64 s.frm, .int .i64 s.tree])) ∧
      QIs w' base fb o T (arr.setIfInBounds o (.slice (some ⟨g, 0, none⟩) r.length c)) (some ⟨g, 0, none⟩) c r ∧ Kb w w' (· = fb) := by
  have hll : (r ++ [s]).length = r.length + 1 := by simp
  have g1 := h.cell
  have g2 := Lib.frozen_of_heap h.var o
  have hfb := h.lt
  have hrow := h.row
  rw [hll] at g1 hrow
  have hrow2 := hrow
  rw [stCs_snoc] at hrow2
  have hpop := ownsRow_pop (size := 5) (n := r.length) (xs := stCs r) (stCs_length r) hrow2
  obtain ⟨g', cur, hA, hbg, hg, hn, hnc, hm, hs, hat⟩ := own_at hrow (by omega)
  injection hA with hA
  injection hA with hA
  subst hA
  have hk : r.length < (r ++ [s]).length := by omega
  have hsl : (r ++ [s])[r.length] = s := by simp
  have i0 := (Lib.cell_of_heap hg (r.length * 5 + 0)).trans (hat r.length hk 0 (by omega))
  have i1 := (Lib.cell_of_heap hg (r.length * 5 + 1)).trans (hat r.length hk 1 (by omega))
  have i2 := (Lib.cell_of_heap hg (r.length * 5 + 2)).trans (hat r.length hk 2 (by omega))
  have i3 := (Lib.cell_of_heap hg (r.length * 5 + 3)).trans (hat r.length hk 3 (by omega))
  have i4 := (Lib.cell_of_heap hg (r.length * 5 + 4)).trans (hat r.length hk 4 (by omega))
  simp only [hsl, stC, List.getElem?_cons_zero, List.getElem?_cons_succ, Nat.add_zero] at i0 i1 i2 i3 i4
  have hne : g ≠ fb := fun e => h.ne (by rw [e]; rfl)
  have HV := Lib.hid h.var
  have HVal := Lib.hid h.val
  have HP := Lib.hid hpop
  have hrc : r.length ≤ c := by omega
  obtain ⟨n, hnr⟩ : ∃ n, n = r.length := ⟨_, rfl⟩
  have HN := Lib.hid hnr
  rw [← hnr] at g1 i0 i1 i2 i3 i4 hl hrc
  clear h hrow hrow2 hpop hg hat hn hnr hll hk hsl hs
  go_enter Try.func84, Try.ntmps84
  have hst : QIs (w.setCell ⟨fb, o, none⟩ (.slice (some ⟨g, 0, none⟩) r.length c)) base fb o T (arr.setIfInBounds o (.slice (some ⟨g, 0, none⟩) r.length c)) (some ⟨g, 0, none⟩) c r :=
    QIs.stored HV.out (Array.getElem?_eq_some_iff.1 HVal.out).1 HP.out (fun e => hne (by injection e))
  have hkb : Kb w (w.setCell ⟨fb, o, none⟩ (.slice (some ⟨g, 0, none⟩) r.length c)) (· = fb) := Kb.set (S := fun k => k = fb) (Kb.refl _ _) (p := ⟨fb, o, none⟩) rfl _
  have HST := Lib.hid hst
  have HKB := Lib.hid hkb
  clear hst hkb
  go_wp2
  go_ret
  rw [HN.out]
  exact ⟨rfl, HST.out.below ((Below.refl _ _).alloc (Nat.le_refl _) _), HKB.out.trans (Kb.of_below ((Below.refl _ _).alloc (Nat.le_refl _) _))⟩

theorem sw_last {q : List Stp} {n : Nat} (hn : q.length = n + 1) (h0 : 0 < q.length) : (sw q 0 n)[n]? = some q[0] := by
  rw [sw_at h0 (by omega), if_pos rfl, List.getElem?_eq_getElem h0]

set_option maxHeartbeats 2000000 in
set_option maxRecDepth 100000 in
/-- heap.Pop -/
theorem hpop_any {w : World} {base fb o : Nat} {T : TypeId} {arr : Array Value} {A : Option Addr} {c : Nat} {q : List Stp} (h : QIs w base fb o T arr A c q) (hq : 0 < q.length) (hl : q.length < 1000000000000) (hH : Heap q) :
    Calls Try.prog 45 #[.iface 94 (.pointer (some ⟨fb, o, none⟩))] w fun e w' =>
      ∃ s q', e = .returned (.iface 72 (.agg #[.int .i64 (s.num : Int), .int .i64 (s.st : Int), .int .i64 (s.cost : Int), .int .i64 s.frm, .int .i64 s.tree])) ∧ q.Perm (s :: q') ∧ (∀ x ∈ q, s.cost ≤ x.cost) ∧ Heap q' ∧ QOut w w' base fb o T arr A q.length c q' := by
  obtain ⟨g, rfl⟩ := h.head hq
  obtain ⟨n, hn⟩ : ∃ n, q.length = n + 1 := ⟨q.length - 1, by omega⟩
  have mL := mth_len h.cell
  have mS := mth_swap h.cell
  have HQ := Lib.hid h
  have hnl : n < 1000000000000 := by omega
  have HN := Lib.hid hn
  clear h
  rw [hn] at mL
  go_enter Try.func45, Try.ntmps45
  go_wp2_with fail
  refine qlen_any.mono ?_
  rintro e w ⟨rfl, rfl⟩
  have hS := swap_any HQ.out.row (i := 0) (j := n) hq (by omega)
  rw [hn, show ((0 : Nat) : Int) = 0 from rfl] at hS
  have HS := Lib.hid hS
  clear mL hS
  go_wp2_with fail
  refine HS.out.mono ?_
  rintro e W1 ⟨rfl, hr, hg, hs⟩
  rw [← hn] at hr
  have hsl := sw_length q 0 n
  have hQ1 := HQ.out.swap hsl hr hg
  have hK1 : Kb w W1 (· = g) := Kb.grown hg (fun k e => by injection e with e; exact e.symm)
  have hI : DnI (cs (sw q 0 n)) n 0 := DnI.start (by rw [← hn]; exact hH) fun k hk hkn => by rw [sw_cs hq (by omega), if_neg (by omega), if_neg (by omega)]
  have HQ1 := Lib.hid hQ1
  have HK1 := Lib.hid hK1
  have HI := Lib.hid hI
  have HSL := Lib.hid hsl
  clear hr hg hs hsl hQ1 hK1 hI mS
  go_wp2_with fail
  refine (down_any HQ1.out (by rw [HSL.out]; omega) HI.out (by rw [HSL.out]; omega)).mono ?_
  rintro e W2 ⟨⟨b, rfl⟩, q2, hQ2, hp2, hh2, hk2, hkb2⟩
  have hl2 : q2.length = n + 1 := by rw [hp2.length_eq, HSL.out]; exact HN.out
  have hlast : q2[n]? = some q[0] := by rw [hk2 n (Nat.le_refl _)]; exact sw_last HN.out hq
  obtain ⟨r, s, rfl⟩ : ∃ r s, q2 = r ++ [s] := by
    rcases List.eq_nil_or_concat q2 with h | ⟨r, s, h⟩
    · rw [h] at hl2; simp at hl2
    · exact ⟨r, s, by rw [h, List.concat_eq_append]⟩
  have hrn : r.length = n := by simp at hl2; exact hl2
  have hs0 : s = q[0] := by
    rw [← hrn] at hlast
    simp at hlast
    exact hlast
  have hperm : q.Perm (s :: r) := ((hp2.trans (sw_perm q 0 n)).symm).trans (by simp)
  have hmin : ∀ x ∈ q, s.cost ≤ x.cost := by
    intro x hx
    obtain ⟨k, hk, rfl⟩ := List.mem_iff_getElem.1 hx
    have := HO.min hH k hk
    rw [cs_at hq, cs_at hk, ← hs0] at this
    exact this
  have hHr : Heap r := by
    intro i hi hir
    rw [hrn] at hir
    have h1 := hh2 i hi hir
    rw [cs_push (by omega), cs_push (by omega)] at h1
    exact h1
  have mPop := mth_pop ⟨fb, o, none⟩
  have HQ2 := Lib.hid hQ2
  have HR := Lib.hid (And.intro hperm (And.intro hmin hHr))
  have HK2 := Lib.hid (HK1.out.trans hkb2)
  have HRN := Lib.hid hrn
  clear hQ2 hp2 hh2 hk2 hkb2 hl2 hlast hrn hs0 hperm hmin hHr
  go_wp2_with fail
  refine (qpop_any HQ2.out (by rw [HRN.out]; exact hnl)).mono ?_
  rintro e W3 ⟨rfl, hQ3, hK3⟩
  have HQ3 := Lib.hid hQ3
  have HK3 := Lib.hid hK3
  clear hQ3 hK3 mPop
  go_wp2
  go_ret
  refine ⟨s, r, rfl, HR.out.1, HR.out.2.1, HR.out.2.2, some ⟨g, 0, none⟩, c, HQ3.out, (HK2.out.more fun k hk => .inr (by rw [hk]; rfl)).trans (HK3.out.more fun k hk => .inl hk), fun k hk => .inl hk⟩
end Go.Proofs.Ytbipdnnalhdoaaa
