/- rules.Parse at the policy of alive. rules.Parse at the policy of alive: the walk. cells.Labels of two policies without elements: text and comment. cells.Labels of two policies without elements: text and comment. The walk. -/
import Derived.Deep.RegionHeld3
import Derived.Test.YtnkelhmjkmeilaaGreatDoorT39
import Derived.Test.YtnkelhmjkmeilaaGreatDoorT17
section
namespace Go.Proofs.YtnkelhmjkmeilaaGreatDoor.H
open Go.RowKit Go.Shelf
attribute [local go_sem] Oper.semAt_some
theorem cut_line {x : Nat} (hx : x < 3) (w : World) : Calls Tryz.prog 40 #[.string (alS x), .string ⟨#[10]⟩] w fun e w' => e = .returned (.tuple #[.string ⟨(joinW (alW x)).toArray⟩, .bool true]) ∧ w' = w := by
  obtain rfl | rfl | rfl : x = 0 ∨ x = 1 ∨ x = 2 := by omega
  · exact (Tryz.strings_CutSuffix (alS 0) ⟨#[10]⟩ w (by decide +kernel)).mono fun e w' h => ⟨h.1.trans (by rfl), h.2⟩
  · exact (Tryz.strings_CutSuffix (alS 1) ⟨#[10]⟩ w (by decide +kernel)).mono fun e w' h => ⟨h.1.trans (by rfl), h.2⟩
  · exact (Tryz.strings_CutSuffix (alS 2) ⟨#[10]⟩ w (by decide +kernel)).mono fun e w' h => ⟨h.1.trans (by rfl), h.2⟩
theorem items_line {x : Nat} (hx : x < 3) (w : World) : Calls Tryz.prog 41 #[.string ⟨(joinW (alW x)).toArray⟩] w (ItemsRet (alW x) w) := by
  refine Items_any (IsStr.mk _) (by simp [alW]) ?_ ?_ ?_ w
  · obtain rfl | rfl | rfl : x = 0 ∨ x = 1 ∨ x = 2 := by omega
    all_goals
      intro y hy
      simp only [alW, alHd, alTl, List.mem_cons, List.not_mem_nil, or_false] at hy
    · rcases hy with rfl | rfl
      · exact ⟨by decide, by decide⟩
      · exact ⟨by decide, by decide⟩
    · rcases hy with rfl | rfl
      · exact ⟨by decide, by decide⟩
      · exact ⟨by decide, by decide⟩
    · subst hy
      exact ⟨by decide, by decide⟩
  · obtain rfl | rfl | rfl : x = 0 ∨ x = 1 ∨ x = 2 := by omega
    all_goals decide
  · obtain rfl | rfl | rfl : x = 0 ∨ x = 1 ∨ x = 2 := by omega
    all_goals decide
theorem line_fit {k x : Nat} (hk : k < 3) (hx : x < 3) : lineB k (alHd x) (alTl x) = decide (k = x) := by
  obtain rfl | rfl | rfl : k = 0 ∨ k = 1 ∨ k = 2 := by omega
  all_goals
    obtain rfl | rfl | rfl : x = 0 ∨ x = 1 ∨ x = 2 := by omega
    all_goals decide
theorem alP_next {k : Nat} {x : Fin 3} (h : x.1 = k) : alP k ++ [x] = alP (k + 1) := by
  obtain ⟨v, hv⟩ := x
  simp only at h
  subst h
  obtain rfl | rfl | rfl : v = 0 ∨ v = 1 ∨ v = 2 := by omega
  all_goals rfl
theorem alP_wrong {k : Nat} {x : Fin 3} (hk : k < 3) (h : x.1 ≠ k) : ¬ alP k ++ [x] <+: [0, 1, 2] := by
  obtain ⟨v, hv⟩ := x
  simp only at h
  obtain rfl | rfl | rfl : v = 0 ∨ v = 1 ∨ v = 2 := by omega
  all_goals
    obtain rfl | rfl | rfl : k = 0 ∨ k = 1 ∨ k = 2 := by omega
    all_goals first | exact absurd rfl h | decide +revert
theorem alP_len {k : Nat} (hk : k ≤ 3) : (alP k).length = k := by
  obtain rfl | rfl | rfl | rfl : k = 0 ∨ k = 1 ∨ k = 2 ∨ k = 3 := by omega
  all_goals rfl
def PI (w : World) (N : Nat) (pre : List (Fin 3)) (W : World) : Prop :=
  pre = alP pre.length ∧ (∃ (A : Option Addr) (n c : Nat) (U : Option Addr) (m d : Nat), RdrAt W (N + 3) (.slice A n c) (.slice none 0 0) (.slice U m d) pre.length ∧
    (1 < pre.length → n = 1 ∧ ∃ T : Addr, A = some T ∧ W.cell? T = some (strV wText) ∧ N + 3 < T.block) ∧ (2 < pre.length → m = 0)) ∧
  W.heap[N]? = some (.cells #[.slice none 0 0, .slice none 0 0, .slice none 0 0] 75 (0, 0)) ∧ W.heap[N + 1]? = some (.cells #[.int .i64 0] 3 (0, 0)) ∧ W.heap[N + 2]? = some (.cells #[.int .i64 0] 66 (0, 0)) ∧ Below N w W
theorem block_kept {W W' : World} {row : Option Nat} {b : Nat} {cs : Array Value} {t : TypeId} {fz : Nat × Nat} (h : W.heap[b]? = some (.cells cs t fz)) (hg : W.grownBy W' row) (hr : ∀ r, row = some r → ∃ o : Obj, W.heap[r]? = some o ∧ o.isCells = false) : W'.heap[b]? = some (.cells cs t fz) :=
  (hg.block b (Array.getElem?_eq_some_iff.1 h).1 (fun e => by
    obtain ⟨o, ho, hc⟩ := hr b e.symm
    rw [h] at ho
    injection ho with ho
    subst ho
    cases hc)).trans h
theorem PI_own {w : World} {N B : Nat} (hN : N ≤ w.heap.size) (hB : N ≤ B) : OwnFrom B (PI w N) := by
  intro pre W W' row ⟨h0, ⟨A, n, c, U, m, d, h1, h2, h3⟩, h4, h5, h6, h7⟩ hg hr
  have hr' := fun r e => (hr r e).2
  refine ⟨h0, ⟨A, n, c, U, m, d, block_kept h1 hg hr', fun h => ?_, h3⟩, block_kept h4 hg hr', block_kept h5 hg hr', block_kept h6 hg hr', h7.grown hg (Nat.le_trans hN h7.size) (fun k e => Nat.le_trans hB (hr k e).1)⟩
  obtain ⟨e1, T, e2, e3, e4⟩ := h2 h
  exact ⟨e1, T, e2, cell_kept e3 hg hr', e4⟩
theorem KpS_b {w : World} {Bs : Nat} (W : World) (l : Nat) (o o' : Obj) (_ : w.heap.size ≤ l) (h : W.heap[l]? = some o) (hc : o.isCells = false) (_ : o.isWalk = false) : KpS Bs W (W.putObj l o') := fun v hv =>
  cell_kept hv (grownBy_putObj' W l o') (fun r e => by cases e; exact ⟨o, h, hc⟩)
theorem round_keeps {W W2 W3 : World} {rb : Nat} {v0 v1 v2 : Value} {k : Nat} (b : Below W.heap.size W W2) (h : KpB rb W2 W3) (hR : RdrAt W rb v0 v1 v2 k) : KeepsOthers W W3 := by
  refine ⟨Nat.le_trans b.size h.1.size, fun q o hq ho => ?_⟩
  have hl := (Array.getElem?_eq_some_iff.1 hq).1
  have hn : q ≠ rb := fun e => by
    subst e
    rw [hR] at hq
    injection hq with hq
    subst hq
    cases ho
  exact (h.2 q (Nat.lt_of_lt_of_le hl b.size) hn).trans ((b.block q hl).trans hq)
def stored5 (W : World) (N : Nat) (v0 v1 v2 u v : Value) : World := ((((W.setCell ⟨N, 0, none⟩ v0).setCell ⟨N, 1, none⟩ v1).setCell ⟨N, 2, none⟩ v2).setCell ⟨N + 1, 0, none⟩ u).setCell ⟨N + 1 + 1, 0, none⟩ v
theorem stored5_facts {W : World} {N : Nat} {x0 x1 x2 y z : Value} {t0 t1 t2 : TypeId} (h0 : W.heap[N]? = some (.cells #[x0, x1, x2] t0 (0, 0))) (h1 : W.heap[N + 1]? = some (.cells #[y] t1 (0, 0))) (h2 : W.heap[N + 1 + 1]? = some (.cells #[z] t2 (0, 0))) (v0 v1 v2 u v : Value) :
    (stored5 W N v0 v1 v2 u v).heap[N]? = some (.cells #[v0, v1, v2] t0 (0, 0)) ∧ (stored5 W N v0 v1 v2 u v).heap[N + 1]? = some (.cells #[u] t1 (0, 0)) ∧ (stored5 W N v0 v1 v2 u v).heap[N + 1 + 1]? = some (.cells #[v] t2 (0, 0)) ∧
    ∀ q, q ≠ N → q ≠ N + 1 → q ≠ N + 1 + 1 → (stored5 W N v0 v1 v2 u v).heap[q]? = W.heap[q]? := by
  unfold stored5
  have a0 := heap_setCell_same _ N 2 _ _ v2 (heap_setCell_same _ N 1 _ _ v1 (heap_setCell_same W N 0 _ _ v0 h0))
  have oth : ∀ (X : World) (p : Addr) (w : Value) q, q ≠ p.block → (X.setCell p w).heap[q]? = X.heap[q]? := fun X p w q h => heap_set_other h
  refine ⟨?_, ?_, ?_, fun q q0 q1 q2 => ?_⟩
  · rw [oth _ ⟨N + 1 + 1, 0, none⟩ _ N (by show N ≠ N + 1 + 1; omega), oth _ ⟨N + 1, 0, none⟩ _ N (by show N ≠ N + 1; omega), a0]
    simp
  · rw [oth _ ⟨N + 1 + 1, 0, none⟩ _ (N + 1) (by show N + 1 ≠ N + 1 + 1; omega)]
    have := heap_setCell_same (((W.setCell ⟨N, 0, none⟩ v0).setCell ⟨N, 1, none⟩ v1).setCell ⟨N, 2, none⟩ v2) (N + 1) 0 _ _ u ((oth _ ⟨N, 2, none⟩ v2 (N + 1) (by show N + 1 ≠ N; omega)).trans ((oth _ ⟨N, 1, none⟩ v1 (N + 1) (by show N + 1 ≠ N; omega)).trans ((oth W ⟨N, 0, none⟩ v0 (N + 1) (by show N + 1 ≠ N; omega)).trans h1)))
    simpa using this
  · have := heap_setCell_same ((((W.setCell ⟨N, 0, none⟩ v0).setCell ⟨N, 1, none⟩ v1).setCell ⟨N, 2, none⟩ v2).setCell ⟨N + 1, 0, none⟩ u) (N + 1 + 1) 0 _ _ v ((oth _ ⟨N + 1, 0, none⟩ u (N + 1 + 1) (by show N + 1 + 1 ≠ N + 1; omega)).trans ((oth _ ⟨N, 2, none⟩ v2 (N + 1 + 1) (by show N + 1 + 1 ≠ N; omega)).trans ((oth _ ⟨N, 1, none⟩ v1 (N + 1 + 1) (by show N + 1 + 1 ≠ N; omega)).trans ((oth W ⟨N, 0, none⟩ v0 (N + 1 + 1) (by show N + 1 + 1 ≠ N; omega)).trans h2))))
    simpa using this
  · rw [oth _ ⟨N + 1 + 1, 0, none⟩ _ q q2, oth _ ⟨N + 1, 0, none⟩ _ q q1, oth _ ⟨N, 2, none⟩ _ q q0, oth _ ⟨N, 1, none⟩ _ q q0, oth _ ⟨N, 0, none⟩ _ q q0]
theorem stored5_below {w W : World} {N : Nat} (h : Below N w W) (v0 v1 v2 u v : Value) : Below N w (stored5 W N v0 v1 v2 u v) :=
  ((((h.setCell (p := ⟨N, 0, none⟩) (Nat.le_refl _) _).setCell (p := ⟨N, 1, none⟩) (Nat.le_refl _) _).setCell (p := ⟨N, 2, none⟩) (Nat.le_refl _) _).setCell (p := ⟨N + 1, 0, none⟩) (Nat.le_succ _) _).setCell (p := ⟨N + 1 + 1, 0, none⟩) (by show N ≤ N + 1 + 1; omega) _
end Go.Proofs.YtnkelhmjkmeilaaGreatDoor.H
end
section
namespace Go.Proofs.YtnkelhmjkmeilaaGreatDoor.H
open Go.RowKit Go.Shelf
attribute [local go_sem] Oper.semAt_some
def ParseRet (w : World) (e : Ending) (w' : World) : Prop := ∃ (T : Addr) (cT : Nat) (U : Option Addr) (cU : Nat), e = .returned (.tuple #[polV T cT U cU, .int .i64 0, .int .i64 0]) ∧ w'.cell? T = some (strV wText) ∧ w.heap.size ≤ T.block ∧ Below w.heap.size w w'
set_option maxHeartbeats 8000000 in
set_option maxRecDepth 100000 in
theorem Parse_one (w : World) : Calls Tryz.prog 34 #[.string ⟨alL.toArray⟩] w (ParseRet w) := by
  refine (callsIn_wide (n := 3)).1 ?_
  have hT := alT
  generalize (⟨alL.toArray⟩ : ByteArray) = s at *
  have HT := Lib.hid hT
  clear hT
  refine callsIn_of_wp_marks Tryz.func34 rfl trivial ?_ rfl
  simp only [Tryz.ntmps34, List.size_toArray, List.length_cons, List.length_nil, Nat.reduceAdd, Nat.reduceSub, Array.replicate_succ, Array.replicate_zero, List.push_toArray, List.append_toArray, List.nil_append, List.cons_append]
  gi_wp2_with (refine ⟨trivial, ?_⟩; gi_at_call 39; refine (callsIn_wide.2 (lines_any _ _)).mono ?_; rintro e w' ⟨rfl, rfl⟩)
  have f0 := heap_alloc_new w (.cells #[.slice none 0 0, .slice none 0 0, .slice none 0 0] 75)
  have B0 := (Below.refl _ w).alloc (Nat.le_refl _) (.cells #[.slice none 0 0, .slice none 0 0, .slice none 0 0] 75)
  have s0 := World.size_alloc w (.cells #[.slice none 0 0, .slice none 0 0, .slice none 0 0] 75)
  generalize w.alloc (.cells #[.slice none 0 0, .slice none 0 0, .slice none 0 0] 75) = Wa at *
  have f1 := heap_alloc_new Wa (.cells #[.int .i64 0] 3)
  have B1 := (Below.refl _ Wa).alloc (Nat.le_refl _) (.cells #[.int .i64 0] 3)
  have s1 := World.size_alloc Wa (.cells #[.int .i64 0] 3)
  generalize Wa.alloc (.cells #[.int .i64 0] 3) = Wb at *
  have f2 := heap_alloc_new Wb (.cells #[.int .i64 0] 66)
  have B2 := (Below.refl _ Wb).alloc (Nat.le_refl _) (.cells #[.int .i64 0] 66)
  have s2 := World.size_alloc Wb (.cells #[.int .i64 0] 66)
  generalize Wb.alloc (.cells #[.int .i64 0] 66) = Wc at *
  have f3 := heap_alloc_new Wc (.cells #[.slice none 0 0, .slice none 0 0, .slice none 0 0, .int .i64 0] 93)
  have B3 := (Below.refl _ Wc).alloc (Nat.le_refl _) (.cells #[.slice none 0 0, .slice none 0 0, .slice none 0 0, .int .i64 0] 93)
  have s3 := World.size_alloc Wc (.cells #[.slice none 0 0, .slice none 0 0, .slice none 0 0, .int .i64 0] 93)
  generalize Wc.alloc (.cells #[.slice none 0 0, .slice none 0 0, .slice none 0 0, .int .i64 0] 93) = Wd at *
  have f4 := heap_alloc_new Wd (.cells #[.string s] 9)
  have B4 := (Below.refl _ Wd).alloc (Nat.le_refl _) (.cells #[.string s] 9)
  have s4 := World.size_alloc Wd (.cells #[.string s] 9)
  generalize Wd.alloc (.cells #[.string s] 9) = We at *
  have g0 : We.heap[w.heap.size]? = some (.cells #[.slice none 0 0, .slice none 0 0, .slice none 0 0] 75 (0, 0)) := (B4.block _ (by omega)).trans ((B3.block _ (by omega)).trans ((B2.block _ (by omega)).trans ((B1.block _ (by omega)).trans f0)))
  have g1 : We.heap[w.heap.size + 1]? = some (.cells #[.int .i64 0] 3 (0, 0)) := (B4.block _ (by omega)).trans ((B3.block _ (by omega)).trans ((B2.block _ (by omega)).trans (by rw [← s0]; exact f1)))
  have g2 : We.heap[w.heap.size + 2]? = some (.cells #[.int .i64 0] 66 (0, 0)) := (B4.block _ (by omega)).trans ((B3.block _ (by omega)).trans (by rw [show w.heap.size + 2 = Wb.heap.size by omega]; exact f2))
  have g3 : RdrAt We (w.heap.size + 3) (.slice none 0 0) (.slice none 0 0) (.slice none 0 0) 0 := (B4.block _ (by omega)).trans (by rw [show w.heap.size + 3 = Wc.heap.size by omega]; exact f3)
  have g4 : We.cell? ⟨w.heap.size + 1 + 1 + 1 + 1, 0, none⟩ = some (.string s) := by
    rw [show w.heap.size + 1 + 1 + 1 + 1 = Wd.heap.size by omega]
    have := Lib.cell_of_heap f4 0
    simpa using this
  have hB : Below w.heap.size w We := B0.trans (((B1.trans ((B2.trans ((B3.trans (B4.mono (by omega))).mono (by omega))).mono (by omega))).mono (by omega)))
  have hs5 : We.heap.size = w.heap.size + 5 := by omega
  clear f0 f1 f2 f3 f4 B0 B1 B2 B3 B4 s0 s1 s2 s3 s4 Wa Wb Wc Wd
  refine wpIn_rangeFunc_ownF rfl (by omega) (gf := 52) (lb := #[.pointer (some ⟨w.heap.size + 1 + 1 + 1 + 1, 0, none⟩)]) rfl trivial (enters_of Tryz.func52 (by kernel_rfl) rfl)
    (lines_stops _ (by omega) (w.heap.size + 1 + 1 + 1 + 1) s HT.out We (by omega) g4) (fun h k v hv => k v (h v hv)) (fun W l o o' h1 h2 h3 h4 => KpS_b W l o o' h1 h2 h3 h4) (Below.refl _ _) (fun _ => rfl)
    (PI w w.heap.size) (fun _ pre _ => ¬ pre <+: [0, 1, 2]) (PI_own (Nat.le_refl _) (by omega)) (fun _ => ownFrom_pure _ _)
    ⟨rfl, ⟨none, 0, 0, none, 0, 0, g3, fun h => by simp at h, fun h => by simp at h⟩, g0, g1, g2, hB⟩
    (fun x => { tmps := #[.string s, undef, .pointer (some ⟨w.heap.size, 0, none⟩), .pointer (some ⟨w.heap.size + 1, 0, none⟩), .pointer (some ⟨w.heap.size + 1 + 1, 0, none⟩), .pointer (some ⟨w.heap.size + 1 + 1 + 1, 0, none⟩), .int .i64 (alO x.1), .string (alS x.1), undef, undef, undef, undef, undef, .string s, .func (.func 52) #[] #[.pointer (some ⟨w.heap.size + 1 + 1 + 1 + 1, 0, none⟩)], .int .i64 (alO x.1), .string (alS x.1), undef, undef, undef, undef, undef, undef, undef, undef, undef, undef, undef, undef, undef, undef, undef, undef, undef, undef, undef, undef, undef, undef, undef, undef, undef, undef, undef, undef, undef, undef, undef, undef, undef, undef, undef, undef, undef, undef, undef, undef, undef, undef, undef, undef, undef], defers := [] }) ?assign ?body ?done ?stop
  case assign =>
    intro l x W K hK
    gi_wp2
    exact hK
  case body =>
    rintro l pre x W ⟨hpre, ⟨A, n, c, U, m, d, hR, h1, h2⟩, q0, q1, q2, hb⟩ hlen
    have HI := Lib.hid (And.intro hpre (And.intro h1 (And.intro h2 hb)))
    have HQ := Lib.hid (And.intro q0 (And.intro q1 q2))
    have HR := Lib.hid hR
    have hlr := (Array.getElem?_eq_some_iff.1 hR).1
    clear hpre h1 h2 hb q0 q1 q2 hR g0 g1 g2 g3 g4 hB hs5
    gi_wp2_with (refine ⟨trivial, ?_⟩; gi_at_call 40; refine (CallsIn.inRound l (callsIn_wide.2 (cut_line x.2 _))).mono ?_; rintro e w' ⟨rfl, rfl⟩)
    refine ⟨trivial, ?_⟩
    refine (CallsIn.inRound l (callsIn_wide.2 (items_line x.2 _))).mono ?_
    rintro e W2 ⟨A2, c2, B2, d2, rfl, hoA, hoB, b2⟩
    obtain ⟨k, hk⟩ : ∃ k, k = pre.length := ⟨_, rfl⟩
    rw [← hk] at hlen HR HI
    have HK := Lib.hid hk
    clear hk
    have hal : (alW x.1).length = (alTl x.1).length + 1 := rfl
    rw [hal] at hoA hoB
    obtain ⟨g, cap, hv, _, hlt⟩ := hoA.form (Nat.succ_pos _)
    obtain rfl : A2 = some ⟨g, 0, none⟩ := by injection hv
    obtain ⟨q, cap', hv', _, hlt'⟩ := hoB.form (Nat.succ_pos _)
    obtain rfl : B2 = some ⟨q, 0, none⟩ := by injection hv'
    clear hv hv' cap cap'
    have hg0 := own_ge hoA g rfl
    have hq0 := own_ge hoB q rfl
    have hcA := hoA.cells (g := g) rfl
    have hcB := hoB.cells (g := q) rfl
    have hcpA := own_cap hoA
    have hcpB := own_cap hoB
    have hR2 : RdrAt W2 (w.heap.size + 1 + 1 + 1) (.slice A n c) (.slice none 0 0) (.slice U m d) k := HR.out.on b2
    have htl : (alTl x.1).length ≤ 100 := by
      obtain h | h | h : x.1 = 0 ∨ x.1 = 1 ∨ x.1 = 2 := by have := x.2; omega
      all_goals (rw [h]; decide)
    have HL := Lib.hid (line_any (c := c2) (d := d2) (x := alHd x.1) (rest := alTl x.1) hR2 hlen (fun j hj => by
        have := hcA j (strV (alHd x.1 :: alTl x.1)[j]) (by rw [List.getElem?_map]; show Option.map strV (alHd x.1 :: alTl x.1)[j]? = _; rw [List.getElem?_eq_getElem hj]; rfl)
        rwa [show (⟨g, 0, none⟩ : Addr).add j = ⟨g, j, none⟩ by simp [Addr.add]; exact fun h => h.symm] at this) hlt (fun j hj => by
        have := hcB j (.bool false) (by simp [boolsV, hj])
        rwa [show (⟨q, 0, none⟩ : Addr).add j = ⟨q, j, none⟩ by simp [Addr.add]; exact fun h => h.symm] at this) hlt' (by have : w.heap.size + 3 < w'.heap.size := hlr; omega) (by have : w.heap.size + 3 < w'.heap.size := hlr; omega) htl hcpA.1 (by unfold maxLen; have := hcpA.2; omega) hcpB.1)
    clear hoA hoB hcA hcB hcpA hcpB
    rw [hal]
    generalize htl' : (alTl x.1).length = tl at *
    have HTL := Lib.hid htl'
    clear htl'
    gi_wp2_with (refine ⟨trivial, ?_⟩; gi_at_call 42; refine (CallsIn.inRound l (callsIn_wide.2 HL.out)).mono ?_)
    rintro e W3 ⟨rfl, A4, c4, ho4, hR4, hk4⟩
    rw [line_fit hlen x.2]
    obtain ⟨hpre, h1, h2, hb⟩ := HI.out
    have hN3 : w.heap.size + 3 < w'.heap.size := hlr
    have b2s := b2.size
    have hkeep : ∀ q cs t, w'.heap[q]? = some (.cells cs t (0, 0)) → q ≠ w.heap.size + 1 + 1 + 1 → W3.heap[q]? = some (.cells cs t (0, 0)) := fun q cs t hq hn => by
      have hl := (Array.getElem?_eq_some_iff.1 hq).1
      exact (hk4.2 q (Nat.lt_of_lt_of_le hl b2s) hn).trans ((b2.block q hl).trans hq)
    have q0 := hkeep _ _ _ HQ.out.1 (by omega)
    have q1 := hkeep _ _ _ HQ.out.2.1 (by omega)
    have q2 := hkeep _ _ _ HQ.out.2.2 (by omega)
    have KO := round_keeps b2 hk4 HR.out
    have hcell : ∀ (p : Addr) v, w'.cell? p = some v → p.block ≠ w.heap.size + 1 + 1 + 1 → W3.cell? p = some v := fun p v hv hn => by
      have hl := World.block_lt_of_cell? w' p hv
      have h3 := (b2.cell (p := p) hl).trans hv
      rw [← h3]
      exact World.cell?_of_block (hk4.2 p.block (Nat.lt_of_lt_of_le hl b2s) hn)
    have h0W := (hb.mono (Nat.zero_le _)).trans ((b2.mono (Nat.zero_le _)).trans hk4.1)
    have hbW : Below w.heap.size w W3 := ⟨h0W.os, h0W.tape, h0W.output, h0W.size, fun q hq => by
      have hl := Nat.lt_of_lt_of_le hq hb.size
      exact (hk4.2 q (Nat.lt_of_lt_of_le hl b2s) (by omega)).trans ((b2.block q hl).trans (hb.block q hq))⟩
    have hKp : KpS (w.heap.size + 1 + 1 + 1 + 1) w' W3 := fun v hv => hcell _ v hv (by show w.heap.size + 1 + 1 + 1 + 1 ≠ _; omega)
    by_cases hx : k = x.1
    · have HP := Lib.hid (show PI w w.heap.size (pre ++ [x]) W3 by
        have e1 : pre ++ [x] = alP (k + 1) := by rw [hpre, alP_next hx.symm]
        have e2 : (alP (k + 1)).length = k + 1 := alP_len (by omega)
        rw [e1]
        unfold PI
        rw [e2]
        refine ⟨rfl, ?_, q0, q1, q2, hbW⟩
        have htl2 := HTL.out
        rw [htl2] at hR4 ho4
        rw [← hx] at htl2 ho4
        obtain rfl | rfl | rfl : k = 0 ∨ k = 1 ∨ k = 2 := by omega
        · exact ⟨A, n, c, U, m, d, hR4, fun h => by omega, fun h => by omega⟩
        · obtain rfl : tl = 1 := htl2.symm
          obtain ⟨g4, cap, hv, _, hlt4⟩ := ho4.form (Nat.succ_pos _)
          obtain rfl : A4 = some ⟨g4, 0, none⟩ := by injection hv
          have hg4 := own_ge ho4 g4 rfl
          have hc4 := ho4.cells (g := g4) rfl 0 (strV wText) rfl
          exact ⟨some ⟨g4, 0, none⟩, 1, c4, U, m, d, hR4, fun _ => ⟨rfl, ⟨g4, 0, none⟩, rfl, by simpa [Addr.add] using hc4, by show w.heap.size + 3 < g4; omega⟩, fun h => by omega⟩
        · obtain rfl : tl = 0 := htl2.symm
          obtain ⟨e3, T, e4, e5, e6⟩ := h1 (by decide)
          exact ⟨A, n, c, A4, 0, c4, hR4, fun _ => ⟨e3, T, e4, hcell T _ e5 (by omega), e6⟩, fun _ => rfl⟩)
      have hd : decide (k = x.1) = true := by simpa using hx
      rw [hd]
      clear q0 q1 q2 hkeep hcell hbW h0W hk4 hR4 ho4 h1 h2 hb hpre
      gi_wp2
      exact ⟨KO, hKp, HP.out⟩
    · have hd : decide (k = x.1) = false := by simpa using hx
      rw [hd]
      have HW := Lib.hid (show ¬ pre ++ [x] <+: [0, 1, 2] by rw [hpre]; exact alP_wrong hlen fun e => hx e.symm)
      have HK3 := Lib.hid KO
      have q2' : W3.heap[w.heap.size + 1 + 1]? = some (.cells #[.int .i64 0] 66 (0, 0)) := q2
      have z00 := Lib.cell_of_heap q0 0
      have z01 := Lib.cell_of_heap q0 1
      have z02 := Lib.cell_of_heap q0 2
      have z10 := Lib.cell_of_heap q1 0
      have z20 := Lib.cell_of_heap q2' 0
      have y00 := Lib.frozen_of_heap q0 0
      have y01 := Lib.frozen_of_heap q0 1
      have y02 := Lib.frozen_of_heap q0 2
      have y10 := Lib.frozen_of_heap q1 0
      have y20 := Lib.frozen_of_heap q2' 0
      simp only [List.getElem?_toArray, List.getElem?_cons_zero, List.getElem?_cons_succ] at z00 z01 z02 z10 z20
      clear hkeep hcell hbW h0W hk4 hR4 ho4 h1 h2 hb hpre KO q0 q1 q2 q2'
      gi_wp2
      refine ⟨HK3.out.trans ?_, HW.out⟩
      repeat first | exact KeepsOthers.refl _ | refine KeepsOthers.trans ?_ (KeepsOthers.setCell _ _ _)
  case done =>
    rintro D ys W hD rfl ⟨_, ⟨A, n, c, U, m, d, hR, h1, h2⟩, q0, q1, q2, hb⟩ hK
    obtain ⟨rfl, T, rfl, hT, hTn⟩ := h1 (by decide)
    obtain rfl := h2 (by decide)
    clear h1 h2 g0 g1 g2 g3 g4 hB HT
    have hR' : W.heap[w.heap.size + 1 + 1 + 1]? = some (.cells #[.slice (some T) 1 c, .slice none 0 0, .slice U 0 d, .int .i64 3] 93 (0, 0)) := hR
    have q2' : W.heap[w.heap.size + 1 + 1]? = some (.cells #[.int .i64 0] 66 (0, 0)) := q2
    have hDl := (Array.getElem?_eq_some_iff.1 hK).1
    have hTl := World.block_lt_of_cell? W T hT
    have HM := Lib.hid (May_one (w := W) (T := T) (U := U) (cT := c) (cU := d) hT hTl)
    unfold polV at HM
    have HQ := Lib.hid (And.intro hR' (And.intro q0 (And.intro q1 q2')))
    have z3 := Lib.cell_of_heap hR' 3
    have z0 := Lib.cell_of_heap hR' 0
    have z1 := Lib.cell_of_heap hR' 1
    have z2 := Lib.cell_of_heap hR' 2
    simp only [List.getElem?_toArray, List.getElem?_cons_zero, List.getElem?_cons_succ] at z0 z1 z2 z3
    have HKD := Lib.hid hK
    have HHT := Lib.hid hT
    have HB := Lib.hid hb
    have hs1 : w.heap.size + 3 < W.heap.size := (Array.getElem?_eq_some_iff.1 hR).1
    clear hR hR' q0 q1 q2 q2' hK hT hb
    gi_wp2_with (refine ⟨trivial, ?_⟩; gi_at_call 43; refine (callsIn_wide.2 HM.out).mono ?_)
    rintro e W4 ⟨rfl, b4⟩
    clear z0 z1 z2 z3
    obtain ⟨hR0, q00, q10, q20⟩ := HQ.out
    have hR4 := (b4.block _ (by omega)).trans hR0
    have q0 := (b4.block _ (by omega)).trans q00
    have q1 := (b4.block _ (by omega)).trans q10
    have q2 := (b4.block _ (by omega)).trans q20
    have hK4 := (b4.block D hDl).trans HKD.out
    have z0 := Lib.cell_of_heap hR4 0
    have z1 := Lib.cell_of_heap hR4 1
    have z2 := Lib.cell_of_heap hR4 2
    have z00 := Lib.cell_of_heap q0 0
    have z01 := Lib.cell_of_heap q0 1
    have z02 := Lib.cell_of_heap q0 2
    have z10 := Lib.cell_of_heap q1 0
    have z20 := Lib.cell_of_heap q2 0
    have y00 := Lib.frozen_of_heap q0 0
    have y01 := Lib.frozen_of_heap q0 1
    have y02 := Lib.frozen_of_heap q0 2
    have y10 := Lib.frozen_of_heap q1 0
    have y20 := Lib.frozen_of_heap q2 0
    simp only [List.getElem?_toArray, List.getElem?_cons_zero, List.getElem?_cons_succ] at z0 z1 z2 z00 z01 z02 z10 z20
    have HQ4 := Lib.hid (And.intro q0 (And.intro q1 q2))
    have HK4 := Lib.hid hK4
    clear hR0 q00 q10 q20 hR4 q0 q1 q2 hK4 HM
    gi_wp2
    obtain ⟨r0, r1, r2, ro⟩ := stored5_facts HQ4.out.1 HQ4.out.2.1 HQ4.out.2.2 (.slice (some T) 1 c) (.slice none 0 0) (.slice U 0 d) (.int .i64 0) (.int .i64 0)
    have hb5 := stored5_below (HB.out.trans (b4.mono HB.out.size)) (.slice (some T) 1 c) (.slice none 0 0) (.slice U 0 d) (.int .i64 0) (.int .i64 0)
    have hTN : T.block ≠ w.heap.size ∧ T.block ≠ w.heap.size + 1 ∧ T.block ≠ w.heap.size + 1 + 1 := by
      refine ⟨?_, ?_, ?_⟩ <;> omega
    have hT5 : (stored5 W4 w.heap.size (.slice (some T) 1 c) (.slice none 0 0) (.slice U 0 d) (.int .i64 0) (.int .i64 0)).cell? T = some (strV wText) := by
      rw [← HHT.out, ← b4.cell (p := T) hTl]
      exact World.cell?_of_block (ro T.block hTN.1 hTN.2.1 hTN.2.2)
    have hK5 := (ro D (by omega) (by omega) (by omega)).trans HK4.out
    show bodyPostM _ _ _ _ _ _ _ (stored5 W4 w.heap.size (.slice (some T) 1 c) (.slice none 0 0) (.slice U 0 d) (.int .i64 0) (.int .i64 0))
    generalize stored5 W4 w.heap.size (.slice (some T) 1 c) (.slice none 0 0) (.slice U 0 d) (.int .i64 0) (.int .i64 0) = W5 at *
    refine ⟨by simp, .inl ⟨_, _, rfl, run_takeDeferred hK5, ?_⟩⟩
    have hg := grownBy_putObj' W5 D (.deferred none)
    have hr : ∀ r, some D = some r → ∃ o : Obj, W5.heap[r]? = some o ∧ o.isCells = false := fun r e => by cases e; exact ⟨_, hK5, rfl⟩
    have k0 := block_kept r0 hg hr
    have k1 := block_kept r1 hg hr
    have k2 := block_kept r2 hg hr
    have c0 := Lib.cell_of_heap k0 0
    have c1 := Lib.cell_of_heap k0 1
    have c2 := Lib.cell_of_heap k0 2
    have c3 := Lib.cell_of_heap k1 0
    have c4 := Lib.cell_of_heap k2 0
    simp only [List.getElem?_toArray, List.getElem?_cons_zero, List.getElem?_cons_succ] at c0 c1 c2 c3 c4
    refine ⟨.tuple #[polV T c U d, .int .i64 0, .int .i64 0], ?_, T, c, U, d, rfl, cell_kept hT5 hg hr, by omega, hb5.grown hg hb5.size (fun k e => by cases e; omega)⟩
    simp [results, Tryz.f34, go_sem, c0, c1, c2, c3, c4, polV]
  case stop =>
    rintro D c pre W hD h1 h2 hK
    exact absurd h1 h2
end Go.Proofs.YtnkelhmjkmeilaaGreatDoor.H
end
section
namespace Go.Proofs.YtnkelhmjkmeilaaGreatDoor.H
open Go.RowKit
attribute [local go_sem ↓] Go.wp_at_zero Go.wp_at_succ
theorem Names_none {w : World} (T U : Option Addr) (n c m d : Nat) : Calls Tryz.prog 70 #[.agg #[.slice T n c, .slice none 0 0, .slice U m d]] w fun e w' => e = .returned (.slice none 0 0) ∧ Below w.heap.size w w' := by
  have b1 := (Below.refl _ w).alloc (Nat.le_refl _) (.cells #[.slice T n c, .slice none 0 0, .slice U m d] 75)
  go_enter Tryz.func70, Tryz.ntmps70
  go_wp2_with fail
  refine wp_loop_rounds 1 ?_
  rw [rounds_succ]
  go_wp2_with fail
  refine (Tryz.slices_Sort_string_none none 0 _).mono ?_
  rintro e w' ⟨rfl, rfl⟩
  go_wp2
  go_ret
  exact ⟨rfl, b1⟩
theorem Grow_none (w : World) : Calls Tryz.prog 101 #[.slice none 0 0, .int .i64 0] w fun e w' => e = .returned (.slice none 0 0) ∧ w' = w := by
  go_enter Tryz.func101, Tryz.ntmps101
  go_wp2
  go_ret
  exact ⟨rfl, rfl⟩
theorem app_none (w : World) : (Builtin.append_ #[72, 72] 72 #[.slice none 0 0, .slice none 0 0]).run Tryz.prog w = .ok (.slice none 0 0) w := by
  have hu := Tryz.underlying72
  simp [Builtin.append_, run_underlying hu, Builtin.lenOf, Builtin.firstCells]
set_option maxHeartbeats 2000000 in
set_option maxRecDepth 100000 in
theorem Concat_none {w : World} {g : Nat} (h0 : w.cell? ⟨g, 0, none⟩ = some (.slice none 0 0)) (h1 : w.cell? ⟨g, 1, none⟩ = some (.slice none 0 0)) (c : Nat) : Calls Tryz.prog 69 #[.slice (some ⟨g, 0, none⟩) 2 c] w fun e w' => e = .returned (.slice none 0 0) ∧ w' = w := by
  have ha := app_none w
  go_enter Tryz.func69, Tryz.ntmps69
  go_wp2_with fail
  refine wp_loop_rounds 3 ?_
  rw [rounds_succ]
  go_wp2_with fail
  rw [rounds_succ]
  go_wp2_with fail
  rw [rounds_succ]
  go_wp2_with fail
  refine (Grow_none _).mono ?_
  rintro e w' ⟨rfl, rfl⟩
  go_wp2_with fail
  refine wp_loop_rounds 3 ?_
  rw [rounds_succ]
  go_wp2_with fail
  rw [rounds_succ]
  go_wp2_with fail
  rw [rounds_succ]
  go_wp2
  go_ret
  exact ⟨rfl, rfl⟩
end Go.Proofs.YtnkelhmjkmeilaaGreatDoor.H
end
section
namespace Go.Proofs.YtnkelhmjkmeilaaGreatDoor.H
open Go.RowKit
attribute [local go_sem ↓] Go.wp_at_zero Go.wp_at_succ
def labCs : Array Value := #[.int .i64 1, .string ⟨#[]⟩, .string ⟨#[]⟩, .bool false, .string ⟨#[]⟩, .bool false, .bool false, .int .i64 2, .string ⟨#[]⟩, .string ⟨#[]⟩, .bool false, .string ⟨#[]⟩, .bool false, .bool false]
def LabsAt (w : World) (g : Nat) : Prop := w.heap[g]? = some (.cells labCs 141 (0, 0))
theorem LabsAt.on {w w' : World} {g : Nat} (h : LabsAt w g) (b : Below w.heap.size w w') : LabsAt w' g := (b.block g (Array.getElem?_eq_some_iff.1 h).1).trans h
set_option maxHeartbeats 8000000 in
set_option maxRecDepth 100000 in
theorem Labels_none {w : World} (T T' : Addr) (U U' : Option Addr) (c c' d d' : Nat) : Calls Tryz.prog 45 #[polV T c U d, polV T' c' U' d'] w fun e w' => ∃ g, e = .returned (.slice (some ⟨g, 0, none⟩) 2 2) ∧ LabsAt w' g ∧ w.heap.size ≤ g ∧ Below w.heap.size w w' := by
  unfold polV
  have b1 := (Below.refl _ w).alloc (Nat.le_refl _) (.cells #[.slice (some T) 1 c, .slice none 0 0, .slice U 0 d] 75)
  have f1 := heap_alloc_new w (.cells #[.slice (some T) 1 c, .slice none 0 0, .slice U 0 d] 75)
  have s1 := World.size_alloc w (.cells #[.slice (some T) 1 c, .slice none 0 0, .slice U 0 d] 75)
  go_enter Tryz.func45, Tryz.ntmps45
  go_upto_region 1 with fail
  generalize w.alloc (.cells #[.slice (some T) 1 c, .slice none 0 0, .slice U 0 d] 75) = Wa at *
  have b2 := (Below.refl _ Wa).alloc (Nat.le_refl _) (.cells #[.slice (some T') 1 c', .slice none 0 0, .slice U' 0 d'] 75)
  have f2 := heap_alloc_new Wa (.cells #[.slice (some T') 1 c', .slice none 0 0, .slice U' 0 d'] 75)
  have s2 := World.size_alloc Wa (.cells #[.slice (some T') 1 c', .slice none 0 0, .slice U' 0 d'] 75)
  generalize Wa.alloc (.cells #[.slice (some T') 1 c', .slice none 0 0, .slice U' 0 d'] 75) = Wb at *
  have b3 := (Below.refl _ Wb).alloc (Nat.le_refl _) (.cells labCs 141)
  have f3 := heap_alloc_new Wb (.cells labCs 141)
  have s3 := World.size_alloc Wb (.cells labCs 141)
  go_upto_region 2 with fail
  have g1 := (b3.block _ (by omega)).trans ((b2.block _ (by omega)).trans f1)
  have g2 := (b3.block _ (by omega)).trans f2
  have hbw : Below w.heap.size w (Wb.alloc (.cells labCs 141)) := bt (bt b1 b2) b3
  unfold labCs at *
  generalize Wb.alloc (.cells #[.int .i64 1, .string ⟨#[]⟩, .string ⟨#[]⟩, .bool false, .string ⟨#[]⟩, .bool false, .bool false, .int .i64 2, .string ⟨#[]⟩, .string ⟨#[]⟩, .bool false, .string ⟨#[]⟩, .bool false, .bool false] 141) = Wc at *
  rw [s1] at g2
  rw [show Wb.heap.size = w.heap.size + 1 + 1 by omega] at f3
  have hl : w.heap.size + 1 + 1 < Wc.heap.size := (Array.getElem?_eq_some_iff.1 f3).1
  have HL := Lib.hid (show LabsAt Wc (w.heap.size + 1 + 1) from f3)
  have HB := Lib.hid hbw
  have R : ∀ w', Below Wc.heap.size Wc w' → (w'.cell? ⟨w.heap.size, 0, none⟩ = some (.slice (some T) 1 c) ∧ w'.cell? ⟨w.heap.size, 1, none⟩ = some (.slice none 0 0) ∧ w'.cell? ⟨w.heap.size, 2, none⟩ = some (.slice U 0 d)) ∧ w'.cell? ⟨w.heap.size + 1, 0, none⟩ = some (.slice (some T') 1 c') ∧ w'.cell? ⟨w.heap.size + 1, 1, none⟩ = some (.slice none 0 0) ∧ w'.cell? ⟨w.heap.size + 1, 2, none⟩ = some (.slice U' 0 d') := fun w' h => by
    have h1 := (h.block _ (by omega)).trans g1
    have h2 := (h.block _ (by omega)).trans g2
    have z0 := Lib.cell_of_heap h1 0
    have z1 := Lib.cell_of_heap h1 1
    have z2 := Lib.cell_of_heap h1 2
    have y0 := Lib.cell_of_heap h2 0
    have y1 := Lib.cell_of_heap h2 1
    have y2 := Lib.cell_of_heap h2 2
    simp only [List.getElem?_toArray, List.getElem?_cons_zero, List.getElem?_cons_succ] at z0 z1 z2 y0 y1 y2
    exact ⟨⟨z0, z1, z2⟩, y0, y1, y2⟩
  have r0 := fun w' h => (R w' h).1.1
  have r1 := fun w' h => (R w' h).1.2.1
  have r2 := fun w' h => (R w' h).1.2.2
  have r3 := fun w' h => (R w' h).2.1
  have r4 := fun w' h => (R w' h).2.2.1
  have r5 := fun w' h => (R w' h).2.2.2
  have hb0 : Below Wc.heap.size Wc Wc := Below.refl _ _
  clear b1 f1 s1 b2 f2 s2 b3 f3 s3 g1 g2 hbw R hl
  go_cut [6] (fun s6 wx => s6 = .slice none 0 0 ∧ Below Wc.heap.size Wc wx)
  case first =>
    go_region_held3 (fun w' => Below Wc.heap.size Wc w')
      (repeat (first | assumption | with_reducible refine Below.drew ?_ | with_reducible refine bt (a := Wc) ?_ br | with_reducible refine Below.alloc ?_ (Below.size (by assumption)) _))
      (first
        | (go_at_call 70; refine (Names_none _ _ _ _ _ _).mono ?_; rintro e WA ⟨rfl, br⟩; have hbw : Below Wc.heap.size Wc WA := bt (by assumption) br)
        | (go_at_call 69; refine (Concat_none (Lib.cell_of_heap (heap_alloc_new _ _) 0) (Lib.cell_of_heap (heap_alloc_new _ _) 1) _).mono ?_; rintro e WA ⟨rfl, rfl⟩))
    all_goals
      go_wp2_with fail
      go_meet
      exact ⟨rfl, hbw.alloc hbw.size _⟩
  case rest =>
    obtain ⟨rfl, hbx⟩ := hcut
    rename World => W3
    have HX := Lib.hid hbx
    clear r0 r1 r2 r3 r4 r5 hbx hb0
    go_wp2_with fail
    refine (Tryz.slices_Sort_string_none none 0 _).mono ?_
    rintro e w' ⟨rfl, rfl⟩
    go_wp2_with fail
    refine (Tryz.slices_Compact_string_empty none 0 _).mono ?_
    rintro e w' ⟨rfl, rfl⟩
    go_wp2_with fail
    refine wp_loop_rounds 1 ?_
    rw [rounds_succ]
    go_wp2
    go_ret
    exact ⟨w.heap.size + 1 + 1, rfl, HL.out.on HX.out, by omega, bt HB.out HX.out⟩
end Go.Proofs.YtnkelhmjkmeilaaGreatDoor.H
end
