/- both: the side of two. -/
import Derived.Test.YtbipdnnalhdoaaaHX
import Derived.Test.YtbipdnnalhdoaaaHu
namespace Go.Proofs.Ytbipdnnalhdoaaa
open Go.RowKit Go.Maps Go.WideMaps
attribute [local go_sem ↓] Go.wp_at_zero Go.wp_at_succ

/-- the first i are told, the others are z -/
def fillL {α : Type} (F : Nat → α) (z : α) (M i : Nat) : List α := (List.range M).map fun v => if v < i then F v else z
theorem fillL_len {α : Type} (F : Nat → α) (z : α) (M i : Nat) : (fillL F z M i).length = M := by simp [fillL]
theorem fillL_set {α : Type} (F : Nat → α) (z : α) {M i : Nat} (hi : i < M) : (fillL F z M i).set i (F i) = fillL F z M (i + 1) := by
  apply List.ext_getElem?
  intro v
  rw [List.getElem?_set]
  unfold fillL
  by_cases hv : v < M
  · by_cases e : i = v
    · subst e
      simp [hi]
    · simp only [e, if_false, List.getElem?_map, List.getElem?_range hv, Option.map_some]
      congr 1
      by_cases h2 : v < i
      · rw [if_pos h2, if_pos (by omega)]
      · rw [if_neg h2, if_neg (by omega)]
  · rw [if_neg (by omega), List.getElem?_eq_none (by simp; omega), List.getElem?_eq_none (by simp; omega)]
theorem fillL_same {α : Type} {F G : Nat → α} {z : α} {M i : Nat} (h : ∀ v, v < i → F v = G v) : fillL F z M i = fillL G z M i := by
  unfold fillL
  apply List.map_congr_left
  intro v _
  by_cases hv : v < i
  · rw [if_pos hv, if_pos hv, h v hv]
  · rw [if_neg hv, if_neg hv]
theorem fillL_all {α : Type} (F : Nat → α) (z : α) (M : Nat) : fillL F z M M = (List.range M).map F := by
  unfold fillL
  apply List.map_congr_left
  intro v hv
  rw [if_pos (List.mem_range.1 hv)]
theorem fillL_at {α : Type} (F : Nat → α) (z : α) {M i v : Nat} (hv : v < M) : (fillL F z M i)[v]? = some (if v < i then F v else z) := by simp [fillL, hv]
theorem made_fill (z : Value) (F : Nat → Value) (n : Nat) : (madeCells #[z] n).toList = fillL F z n 0 := by
  apply List.ext_getElem?
  intro i
  by_cases hi : i < n
  · simp [madeCells, hi, Nat.mod_one, fillL]
  · simp [madeCells, hi, Nat.mod_one, fillL]
theorem ints_fill (F : Nat → Int) (n i : Nat) : fillL (fun v => Value.int .i64 (F v)) (.int .i64 0) n i = ints (fillL F 0 n i) := by
  unfold fillL ints
  rw [List.map_map]
  apply List.map_congr_left
  intro v _
  by_cases hv : v < i
  · simp [hv]
  · simp [hv]
theorem own_kept' {w w' : World} {base K g : Nat} {e : TypeId} {xs : List Value} (h : w.ownsRow base e 1 (.slice (some ⟨g, 0, none⟩) K K) K xs) (hb : Below w.heap.size w w') : w'.ownsRow base e 1 (.slice (some ⟨g, 0, none⟩) K K) K xs :=
  fown_block h fun q hq => hb.block q (h.lt q hq).2
theorem ints_atD' {l : List Int} {k : Nat} (hk : k < l.length) : (ints l)[k]? = some (.int .i64 (l.getD k (-1))) := by rw [ints_at hk]; simp [List.getD, hk]
/-- what both tells: all of it new -/
def BothRet (w : World) (s : Sd) (e : Ending) (w' : World) : Prop := ∃ N c1 O c2, e = .returned (sdVal s N c1 O c2) ∧ SdV w' (fun b => w.heap.size ≤ b ∧ b < w'.heap.size) s N c1 O c2 ∧ Below w.heap.size w w'
/-- a row that is made, and the one behind it, and a pair of them, in whatever order -/
def MadeCut (W W3 : World) (cN cO : Array Value) (M gN gO gS : Nat) : Prop := W3.heap[gN]? = some (.cells cN 24 (0, 0)) ∧ W3.heap[gO]? = some (.cells cO 3 (0, 0)) ∧ W3.heap[gS]? = some (.cells #[.slice (some ⟨gN, 0, none⟩) M M, .slice (some ⟨gO, 0, none⟩) M M] 26 (0, 0)) ∧ (gN ≠ gO ∧ gN ≠ gS ∧ gO ≠ gS) ∧ W.heap.size ≤ gN ∧ W.heap.size ≤ gO ∧ W.heap.size ≤ gS ∧ Below W.heap.size W W3
theorem al3 (X : World) (a b c : Array Value) (s t u : TypeId) : (((X.alloc (.cells a s)).alloc (.cells b t)).alloc (.cells c u)).heap[X.heap.size]? = some (.cells a s (0, 0)) ∧ (((X.alloc (.cells a s)).alloc (.cells b t)).alloc (.cells c u)).heap[X.heap.size + 1]? = some (.cells b t (0, 0)) ∧
    (((X.alloc (.cells a s)).alloc (.cells b t)).alloc (.cells c u)).heap[X.heap.size + 1 + 1]? = some (.cells c u (0, 0)) ∧ Below X.heap.size X (((X.alloc (.cells a s)).alloc (.cells b t)).alloc (.cells c u)) := by
  have e1 := World.size_alloc X (.cells a s)
  have e2 := World.size_alloc (X.alloc (.cells a s)) (.cells b t)
  have h1 := heap_alloc_new (X.alloc (.cells a s)) (.cells b t)
  have h2 := heap_alloc_new ((X.alloc (.cells a s)).alloc (.cells b t)) (.cells c u)
  rw [e1] at h1
  rw [e2, e1] at h2
  refine ⟨(Below.heap_alloc _ _ _ (by omega)).trans ((Below.heap_alloc _ _ _ (by omega)).trans (heap_alloc_new X _)), (Below.heap_alloc _ _ _ (by omega)).trans h1, h2, (((Below.refl _ X).alloc (Nat.le_refl _) _).alloc (by omega) _).alloc (by omega) _⟩
theorem own_of_heap {W : World} {base g n : Nat} {e : TypeId} {cur : Array Value} (h : W.heap[g]? = some (.cells cur e (0, 0))) (hb : base ≤ g) (hn : cur.size = n) (hm : n ≤ maxLen) : W.ownsRow base e 1 (.slice (some ⟨g, 0, none⟩) n n) n cur.toList :=
  ⟨by simp [hn], .inr ⟨g, n, cur, rfl, hb, h, Nat.le_refl _, hm, by omega, by rw [Nat.mul_one]; exact List.take_of_length_le (by simp [hn])⟩⟩
/-- cells, each in its place -/
theorem CsIsP.of_each {w : World} {S : Nat → Prop} {cs : Nat → Cl} {F : Nat → Value} : ∀ (M : Nat), (∀ v, v < M → CIsP w S (cs v) (F v)) → CsIsP w S ((List.range M).map cs) ((List.range M).map F)
  | 0, _ => by simp [CsIsP]
  | M + 1, h => by
    rw [List.range_succ, List.map_append, List.map_append]
    exact CsIsP.append (CsIsP.of_each M fun v hv => h v (by omega)) (CsIsP.cons (h M (by omega)) (CsIsP.nil _ _))
set_option maxHeartbeats 8000000 in
set_option maxRecDepth 100000 in
theorem both_any {w : World} {g h : Hd} {A B C A' B' C' : Option Addr} {c c1 c2 d d1 d2 m1 m2 n : Nat} (H : HdV w (fun b => b < w.heap.size) g A c B c1 C c2) (H' : HdV w (fun b => b < w.heap.size) h A' d B' d1 C' d2) (hO : HdOk g m1) (hO' : HdOk h m2) (hm1 : m1 ≤ 400) (hm2 : m2 ≤ 400) (hL : g.labs.length = h.labs.length) (hn : n ≤ g.labs.length) :
    Calls Try.prog 41 #[hdVal g A c B c1 C c2, hdVal h A' d B' d1 C' d2, .int .i64 (n : Int)] w (BothRet w ((andH g h).side n)) := by
  have HLL := Lib.hid hL
  clear hL
  obtain ⟨W1, hW1⟩ : ∃ W1, W1 = ((w.alloc (.cells #[.int .i64 g.K, .slice A g.labs.length c, .slice B g.root.nx.length c1, .slice C g.root.out.length c2] 28)).alloc (.cells #[.int .i64 h.K, .slice A' h.labs.length d, .slice B' h.root.nx.length d1, .slice C' h.root.out.length d2] 28)).alloc (.cells #[.slice none 0 0, .slice none 0 0] 26) := ⟨_, rfl⟩
  have hs1 : W1.heap.size = w.heap.size + 3 := by rw [hW1, World.size_alloc, World.size_alloc, World.size_alloc]
  have hx0 : W1.heap[w.heap.size]? = some (.cells #[.int .i64 g.K, .slice A g.labs.length c, .slice B g.root.nx.length c1, .slice C g.root.out.length c2] 28 (0, 0)) := by
    rw [hW1]
    exact (Below.heap_alloc _ _ _ (by rw [World.size_alloc, World.size_alloc]; omega)).trans ((Below.heap_alloc _ _ _ (by rw [World.size_alloc]; omega)).trans (heap_alloc_new w _))
  have hx1 : W1.heap[w.heap.size + 1]? = some (.cells #[.int .i64 h.K, .slice A' h.labs.length d, .slice B' h.root.nx.length d1, .slice C' h.root.out.length d2] 28 (0, 0)) := by
    have h9 := heap_alloc_new (w.alloc (.cells #[.int .i64 g.K, .slice A g.labs.length c, .slice B g.root.nx.length c1, .slice C g.root.out.length c2] 28)) (.cells #[.int .i64 h.K, .slice A' h.labs.length d, .slice B' h.root.nx.length d1, .slice C' h.root.out.length d2] 28)
    rw [World.size_alloc] at h9
    rw [hW1]
    exact (Below.heap_alloc _ _ _ (by rw [World.size_alloc, World.size_alloc]; omega)).trans h9
  have hx2 : W1.heap[w.heap.size + 1 + 1]? = some (.cells #[.slice none 0 0, .slice none 0 0] 26 (0, 0)) := by
    have h9 := heap_alloc_new ((w.alloc (.cells #[.int .i64 g.K, .slice A g.labs.length c, .slice B g.root.nx.length c1, .slice C g.root.out.length c2] 28)).alloc (.cells #[.int .i64 h.K, .slice A' h.labs.length d, .slice B' h.root.nx.length d1, .slice C' h.root.out.length d2] 28)) (.cells #[.slice none 0 0, .slice none 0 0] 26)
    rw [World.size_alloc, World.size_alloc] at h9
    rw [hW1]
    exact h9
  have hB1 : Below w.heap.size w W1 := by
    rw [hW1]
    exact (((Below.refl _ w).alloc (Nat.le_refl _) _).alloc (by rw [World.size_alloc]; omega) _).alloc (by rw [World.size_alloc, World.size_alloc]; omega) _
  have HB1 := Lib.hid hB1
  have HX := Lib.hid (And.intro hx0 (And.intro hx1 hx2))
  have HW1 := Lib.hid hW1
  have HS1 := Lib.hid hs1
  have hs1a : w.heap.size + 3 ≤ W1.heap.size := Nat.le_of_eq hs1.symm
  have hs1b : W1.heap.size ≤ w.heap.size + 3 := Nat.le_of_eq hs1
  clear hx0 hx1 hx2 hB1 hs1 hW1
  go_enter Try.func41, Try.ntmps41
  go_upto_region 1 with fail
  rw [← HW1.out]
  have x0 := Lib.cell_of_heap HX.out.1 0
  have x1 := Lib.cell_of_heap HX.out.1 1
  have x2 := Lib.cell_of_heap HX.out.1 2
  have x3 := Lib.cell_of_heap HX.out.1 3
  have y0 := Lib.cell_of_heap HX.out.2.1 0
  have y1 := Lib.cell_of_heap HX.out.2.1 1
  have y2 := Lib.cell_of_heap HX.out.2.1 2
  have y3 := Lib.cell_of_heap HX.out.2.1 3
  simp only [List.getElem?_toArray, List.getElem?_cons_zero, List.getElem?_cons_succ] at x0 x1 x2 x3 y0 y1 y2 y3
  have hal := (Below.refl _ W1).alloc (Nat.le_refl _) (.cells #[.int .i64 g.K, .slice A g.labs.length c, .slice B g.root.nx.length c1, .slice C g.root.out.length c2, .int .i64 h.K, .slice A' h.labs.length d, .slice B' h.root.nx.length d1, .slice C' h.root.out.length d2] 89)
  have hxt := heap_alloc_new W1 (.cells #[.int .i64 g.K, .slice A g.labs.length c, .slice B g.root.nx.length c1, .slice C g.root.out.length c2, .int .i64 h.K, .slice A' h.labs.length d, .slice B' h.root.nx.length d1, .slice C' h.root.out.length d2] 89)
  have hsz2 := World.size_alloc W1 (.cells #[.int .i64 g.K, .slice A g.labs.length c, .slice B g.root.nx.length c1, .slice C g.root.out.length c2, .int .i64 h.K, .slice A' h.labs.length d, .slice B' h.root.nx.length d1, .slice C' h.root.out.length d2] 89)
  go_upto_region 2 with fail
  generalize W1.alloc (.cells #[.int .i64 g.K, .slice A g.labs.length c, .slice B g.root.nx.length c1, .slice C g.root.out.length c2, .int .i64 h.K, .slice A' h.labs.length d, .slice B' h.root.nx.length d1, .slice C' h.root.out.length d2] 89) = W2 at *
  have hz1 := Nat.le_of_eq hsz2.symm
  have hz2 := Nat.le_of_eq hsz2
  clear hsz2
  have hX0 := (hal.block _ (show w.heap.size < W1.heap.size by omega)).trans HX.out.1
  have hX1 := (hal.block _ (show w.heap.size + 1 < W1.heap.size by omega)).trans HX.out.2.1
  have hX2 := (hal.block _ (show w.heap.size + 1 + 1 < W1.heap.size by omega)).trans HX.out.2.2
  have HX2 := Lib.hid (And.intro hX0 (And.intro hX1 (And.intro hX2 hxt)))
  have HB2 := Lib.hid (HB1.out.trans (hal.mono (by omega)))
  have HV := Lib.hid (H.on HB2.out)
  have HV' := Lib.hid (H'.on HB2.out)
  replace x0 := Lib.cell_of_heap hX0 0
  replace x1 := Lib.cell_of_heap hX0 1
  replace x2 := Lib.cell_of_heap hX0 2
  replace x3 := Lib.cell_of_heap hX0 3
  replace y0 := Lib.cell_of_heap hX1 0
  replace y1 := Lib.cell_of_heap hX1 1
  replace y2 := Lib.cell_of_heap hX1 2
  replace y3 := Lib.cell_of_heap hX1 3
  simp only [List.getElem?_toArray, List.getElem?_cons_zero, List.getElem?_cons_succ] at x0 x1 x2 x3 y0 y1 y2 y3
  have r0 := fun w' (hw' : Below W2.heap.size W2 w') => (hw'.cell (p := ⟨w.heap.size, 0, none⟩) (by show w.heap.size < _; omega)).trans x0
  have r1 := fun w' (hw' : Below W2.heap.size W2 w') => (hw'.cell (p := ⟨w.heap.size, 1, none⟩) (by show w.heap.size < _; omega)).trans x1
  have r2 := fun w' (hw' : Below W2.heap.size W2 w') => (hw'.cell (p := ⟨w.heap.size, 2, none⟩) (by show w.heap.size < _; omega)).trans x2
  have r3 := fun w' (hw' : Below W2.heap.size W2 w') => (hw'.cell (p := ⟨w.heap.size, 3, none⟩) (by show w.heap.size < _; omega)).trans x3
  have s0 := fun w' (hw' : Below W2.heap.size W2 w') => (hw'.cell (p := ⟨w.heap.size + 1, 0, none⟩) (by show w.heap.size + 1 < _; omega)).trans y0
  have s1 := fun w' (hw' : Below W2.heap.size W2 w') => (hw'.cell (p := ⟨w.heap.size + 1, 1, none⟩) (by show w.heap.size + 1 < _; omega)).trans y1
  have s2 := fun w' (hw' : Below W2.heap.size W2 w') => (hw'.cell (p := ⟨w.heap.size + 1, 2, none⟩) (by show w.heap.size + 1 < _; omega)).trans y2
  have s3 := fun w' (hw' : Below W2.heap.size W2 w') => (hw'.cell (p := ⟨w.heap.size + 1, 3, none⟩) (by show w.heap.size + 1 < _; omega)).trans y3
  have hna := Nat.le_trans (hO.sideOk n).2 hm1
  have hnb := Nat.le_trans (hO'.sideOk n).2 hm2
  have hmm := Nat.mul_le_mul hna hnb
  have HSN := Lib.hid (show (∀ k : Nat, (((andH g h).side n).out.length) = (g.side n).out.length * (h.side n).out.length) from fun _ => by rw [and_side HLL.out, bothS_out])
  obtain ⟨IsH, hI1, hI2, HSS⟩ : ∃ R : Value → Sd → Prop, R (hdVal g A c B c1 C c2) (g.side n) ∧ R (hdVal h A' d B' d1 C' d2) (h.side n) ∧ Hid (∀ w', Below W2.heap.size W2 w' → ∀ v sd, R v sd → Calls Try.prog 50 #[v, .int .i64 (n : Int)] w' fun e w'' => ∃ B c1 C c2, e = .returned (sdVal sd B c1 C c2) ∧ Below w'.heap.size w' w'') :=
    ⟨fun v sd => ∀ w', Below W2.heap.size W2 w' → Calls Try.prog 50 #[v, .int .i64 (n : Int)] w' fun e w'' => ∃ B c1 C c2, e = .returned (sdVal sd B c1 C c2) ∧ Below w'.heap.size w' w'',
      fun w' hw' => (side_any (HV.out.on hw') n).mono fun e w'' ⟨B, c1, C, c2, e1, _, e3⟩ => ⟨B, c1, C, c2, e1, e3⟩, fun w' hw' => (side_any (HV'.out.on hw') n).mono fun e w'' ⟨B, c1, C, c2, e1, _, e3⟩ => ⟨B, c1, C, c2, e1, e3⟩, Lib.hid fun w' hw' _ _ h => h w' hw'⟩
  have hb0 : Below W2.heap.size W2 W2 := Below.refl _ _
  have fs := fld_sd1
  obtain ⟨Kg, hKg⟩ : ∃ K : Nat, g.K = (K : Int) := ⟨g.K.toNat, (Int.toNat_of_nonneg (by have := hO.K1; omega)).symm⟩
  obtain ⟨Kh, hKh⟩ : ∃ K : Nat, h.K = (K : Int) := ⟨h.K.toNat, (Int.toNat_of_nonneg (by have := hO'.K1; omega)).symm⟩
  have hKgt : g.K.toNat = Kg := by rw [hKg]; exact Int.toNat_natCast Kg
  have hKht : h.K.toNat = Kh := by rw [hKh]; exact Int.toNat_natCast Kh
  have hKg4 : Kg ≤ 400 := by have := hO.fewK; omega
  have hKh4 : Kh ≤ 400 := by have := hO'.fewK; omega
  obtain ⟨Kp, hKp⟩ : ∃ Kp, Kp = Kg * Kh := ⟨_, rfl⟩
  have hKpb : Kp ≤ 160000 := by rw [hKp]; exact Nat.mul_le_mul hKg4 hKh4
  have hKpI : g.K * h.K = (Kp : Int) := by rw [hKg, hKh, hKp, Int.natCast_mul]
  have hKpw : IntKind.i64.wrap (Kp : Int) = (Kp : Int) := IntWalk.i64_in _ (by omega)
  have HSD := Lib.hid (show (andH g h).side n = bothS (g.side n) (h.side n) Kg Kh (decide (g.labs.length ≤ n)) by rw [and_side HLL.out, hKgt, hKht])
  have HKK := Lib.hid (show g.K.toNat * h.K.toNat = Kp by rw [hKgt, hKht, hKp])
  have HKP := Lib.hid hKp
  clear hKg hKh hKgt hKht hKp
  clear hal hxt hX0 hX1 hX2 x0 x1 x2 x3 y0 y1 y2 y3 H H' HX
  generalize hsa : g.side n = sa at *
  generalize hsb : h.side n = sb at *
  have HSA := Lib.hid (And.intro hsa hsb)
  clear hsa hsb
  obtain ⟨M, hM⟩ : ∃ M, M = sa.out.length * sb.out.length := ⟨_, rfl⟩
  have hMI : (sa.out.length : Int) * (sb.out.length : Int) = (M : Int) := by rw [hM, Int.natCast_mul]
  have hMb : M ≤ 160000 := by omega
  have hMw : IntKind.i64.wrap (M : Int) = (M : Int) := IntWalk.i64_in _ (by omega)
  have HM := Lib.hid hM
  clear hM hmm
  go_cut [8] (fun s8 wx => s8 = .int .i64 (M : Int) ∧ Below W2.heap.size W2 wx)
  case first =>
    go_region_held3 (fun w' => Below W2.heap.size W2 w')
      (repeat (first | assumption | with_reducible refine Below.drew ?_ | with_reducible refine bt (a := W2) ?_ br))
      (first
        | (go_at_call 50; refine (HSS.out _ (by assumption) _ _ (by assumption)).mono ?_; rintro e WA ⟨B1, c11, C1, c12, rfl, br⟩; have hbw : Below W2.heap.size W2 WA := bt (by assumption) br))
    all_goals
      go_wp2_with fail
      go_meet
      exact ⟨rfl, by (repeat (first | assumption | with_reducible refine Below.drew ?_ | with_reducible refine bt (a := W2) ?_ br))⟩
  case rest =>
    obtain ⟨rfl, hb⟩ := hcut
    rename World => W3
    have HB3 := Lib.hid (HB2.out.trans (hb.mono (by omega)))
    have HB23 := Lib.hid hb
    clear hb r0 r1 r2 r3 s0 s1 s2 s3 HSS hI1 hI2 hb0 fs
    obtain ⟨ind, hind, hzd, hsd, hbd⟩ := info_parts infoIn
    obtain ⟨inr, hinr, hzr, hsr, hbr⟩ := info_parts infoSl
    obtain ⟨zN, hzN⟩ : ∃ zN, zN = madeCells (Value.slice none 0 0).cells (M * 1) := ⟨_, rfl⟩
    obtain ⟨zO, hzO⟩ : ∃ zO, zO = madeCells (Value.int .i64 0).cells (M * 1) := ⟨_, rfl⟩
    have hmkN : ∀ w : World, (Instr.makeSlice 23 (.int .i64 (M : Int)) (.int .i64 (M : Int))).run Try.prog w = .ok (.slice (some ⟨w.heap.size, 0, none⟩) M M) (w.alloc (.cells zN 24)) := fun w => by
      have h9 := run_make (P := Try.prog) w 23 24 inr _ Try.underlying23 hinr hzr .i64 .i64 (M : Int) (M : Int) (by omega) (Int.le_refl _) (by rw [hbr]; omega) (by omega)
      rw [hsr, Int.toNat_natCast, ← hzN] at h9
      exact h9
    have hmkO : ∀ w : World, (Instr.makeSlice 24 (.int .i64 (M : Int)) (.int .i64 (M : Int))).run Try.prog w = .ok (.slice (some ⟨w.heap.size, 0, none⟩) M M) (w.alloc (.cells zO 3)) := fun w => by
      have h9 := run_make (P := Try.prog) w 24 3 ind _ Try.underlying24 hind hzd .i64 .i64 (M : Int) (M : Int) (by omega) (Int.le_refl _) (by rw [hbd]; omega) (by omega)
      rw [hsd, Int.toNat_natCast, ← hzO] at h9
      exact h9
    have HZ := Lib.hid (And.intro hzN hzO)
    clear hzN hzO
    go_upto_region 3 with fail
    go_cut [9] (fun s9 wx => ∃ gN gO gS, s9 = .pointer (some ⟨gS, 0, none⟩) ∧ MadeCut W3 wx zN zO M gN gO gS)
    case first =>
      go_region
      all_goals
        go_wp2_with fail
        go_meet
        first
        | exact ⟨W3.heap.size, W3.heap.size + 1, W3.heap.size + 1 + 1, rfl, (al3 W3 _ _ _ _ _ _).1, (al3 W3 _ _ _ _ _ _).2.1, (al3 W3 _ _ _ _ _ _).2.2.1, ⟨by omega, by omega, by omega⟩, by omega, by omega, by omega, (al3 W3 _ _ _ _ _ _).2.2.2.drew⟩
        | exact ⟨W3.heap.size, W3.heap.size + 1 + 1, W3.heap.size + 1, rfl, (al3 W3 _ _ _ _ _ _).1, (al3 W3 _ _ _ _ _ _).2.2.1, (al3 W3 _ _ _ _ _ _).2.1, ⟨by omega, by omega, by omega⟩, by omega, by omega, by omega, (al3 W3 _ _ _ _ _ _).2.2.2.drew⟩
        | exact ⟨W3.heap.size + 1, W3.heap.size, W3.heap.size + 1 + 1, rfl, (al3 W3 _ _ _ _ _ _).2.1, (al3 W3 _ _ _ _ _ _).1, (al3 W3 _ _ _ _ _ _).2.2.1, ⟨by omega, by omega, by omega⟩, by omega, by omega, by omega, (al3 W3 _ _ _ _ _ _).2.2.2.drew⟩
        | exact ⟨W3.heap.size + 1, W3.heap.size + 1 + 1, W3.heap.size, rfl, (al3 W3 _ _ _ _ _ _).2.1, (al3 W3 _ _ _ _ _ _).2.2.1, (al3 W3 _ _ _ _ _ _).1, ⟨by omega, by omega, by omega⟩, by omega, by omega, by omega, (al3 W3 _ _ _ _ _ _).2.2.2.drew⟩
        | exact ⟨W3.heap.size + 1 + 1, W3.heap.size, W3.heap.size + 1, rfl, (al3 W3 _ _ _ _ _ _).2.2.1, (al3 W3 _ _ _ _ _ _).1, (al3 W3 _ _ _ _ _ _).2.1, ⟨by omega, by omega, by omega⟩, by omega, by omega, by omega, (al3 W3 _ _ _ _ _ _).2.2.2.drew⟩
        | exact ⟨W3.heap.size + 1 + 1, W3.heap.size + 1, W3.heap.size, rfl, (al3 W3 _ _ _ _ _ _).2.2.1, (al3 W3 _ _ _ _ _ _).2.1, (al3 W3 _ _ _ _ _ _).1, ⟨by omega, by omega, by omega⟩, by omega, by omega, by omega, (al3 W3 _ _ _ _ _ _).2.2.2.drew⟩
    case rest =>
      obtain ⟨gN, gO, gS, rfl, hm⟩ := hcut
      rename World => W4
      obtain ⟨hmN, hmO, hmS, ⟨hn1, hn2, hn3⟩, hl1, hl2, hl3, hmB⟩ := hm
      have hl4 : W2.heap.size ≤ W3.heap.size := HB23.out.size
      have hBW4 : Below W2.heap.size W2 W4 := HB23.out.trans (hmB.mono hl4)
      have hlN := (Array.getElem?_eq_some_iff.1 hmN).1
      have hlO := (Array.getElem?_eq_some_iff.1 hmO).1
      have hlS := (Array.getElem?_eq_some_iff.1 hmS).1
      obtain ⟨rowF, hrowF⟩ : ∃ f : Nat → Nat → Int, f = fun st pr => ((nxP sa sb Kh st pr : Nat) : Int) := ⟨_, rfl⟩
      obtain ⟨outF, houtF⟩ : ∃ f : Nat → Int, f = fun st => ((outP sa sb Kh (decide (g.labs.length ≤ n)) st : Nat) : Int) := ⟨_, rfl⟩
      have hOwnN := own_of_heap (base := w.heap.size) hmN (by omega) (n := M) (by rw [HZ.out.1, size_madeCells, Nat.mul_one]) (by unfold maxLen; omega)
      have hOwnO := own_of_heap (base := w.heap.size) hmO (by omega) (n := M) (by rw [HZ.out.2, size_madeCells, Nat.mul_one]) (by unfold maxLen; omega)
      rw [HZ.out.1, Nat.mul_one, show (Value.slice none 0 0).cells = #[.slice none 0 0] from rfl, made_fill _ (fun _ => .slice none 0 0)] at hOwnN
      rw [HZ.out.2, Nat.mul_one, show (Value.int .i64 0).cells = #[.int .i64 0] from rfl, made_fill _ (fun v => .int .i64 (outF v)), ints_fill] at hOwnO
      have HF := Lib.hid (And.intro hrowF houtF)
      have HOwn := Lib.hid (And.intro hOwnN hOwnO)
      have HMS := Lib.hid hmS
      have HBW := Lib.hid hBW4
      have hBB : Below w.heap.size w W4 := HB2.out.trans (hBW4.mono (by omega))
      have HBB := Lib.hid hBB
      have HNE := Lib.hid (And.intro hn1 (And.intro hn2 hn3))
      have HX4 := Lib.hid (show W4.heap[w.heap.size]? = _ ∧ W4.heap[w.heap.size + 1]? = _ ∧ W4.heap[w.heap.size + 1 + 1]? = _ ∧ W4.heap[W1.heap.size]? = _ from
        ⟨(hBW4.block _ (by omega)).trans HX2.out.1, (hBW4.block _ (by omega)).trans HX2.out.2.1, (hBW4.block _ (by omega)).trans HX2.out.2.2.1, (hBW4.block _ (by omega)).trans HX2.out.2.2.2⟩)
      clear hmN hmO hmS hn1 hn2 hn3 hmB hBW4 hOwnN hOwnO hrowF houtF hBB hmkN hmkO HZ HX2 HB23 HB3
      go_wp2
      go_loopw [33] (fun iv wr => ∃ (i : Nat) (F : Nat → Value), iv = .int .i64 i ∧ i ≤ M ∧ Hid (∀ st, st < i → CIsP wr (fun q => W4.heap.size ≤ q ∧ q < wr.heap.size) (rowC ((List.range Kp).map (rowF st))) (F st)) ∧ wr.ownsRow w.heap.size 24 1 (.slice (some ⟨gN, 0, none⟩) M M) M (fillL F (.slice none 0 0) M i) ∧ wr.ownsRow w.heap.size 3 1 (.slice (some ⟨gO, 0, none⟩) M M) M (ints (fillL outF 0 M i)) ∧
        Hid (∀ q, q < W4.heap.size → q ≠ gN → q ≠ gO → wr.heap[q]? = W4.heap[q]?) ∧ W4.heap.size ≤ wr.heap.size ∧ Below W2.heap.size W2 wr) (fun iv _ => M - (intOf iv).toNat)
      case atStart => exact ⟨0, fun _ => .slice none 0 0, rfl, Nat.zero_le _, Lib.hid (fun st h => by omega), HOwn.out.1, HOwn.out.2, Lib.hid (fun _ _ _ _ => rfl), Nat.le_refl _, HBW.out⟩
      case round =>
        obtain ⟨i, F, rfl, hi, hF, hON, hOO, hfar, hsz4, hbr⟩ := hrel
        obtain ⟨wo, rfl⟩ : ∃ wo : World, wo = wr := ⟨_, rfl⟩
        have hN1 := hfar.out w.heap.size (by omega) (by omega) (by omega)
        have hN2 := hfar.out (w.heap.size + 1) (by omega) (by omega) (by omega)
        have hN3 := hfar.out (w.heap.size + 1 + 1) (by omega) (by omega) (by omega)
        have hN4 := hfar.out W1.heap.size (by omega) (by omega) (by omega)
        have hN5 := hfar.out gS (by omega) (fun e => HNE.out.2.1 e.symm) (fun e => HNE.out.2.2 e.symm)
        rw [HX4.out.1] at hN1
        rw [HX4.out.2.1] at hN2
        rw [HX4.out.2.2.1] at hN3
        rw [HX4.out.2.2.2] at hN4
        rw [HMS.out] at hN5
        have HXO := Lib.hid (And.intro hN1 (And.intro hN2 (And.intro hN3 (And.intro hN4 hN5))))
        have HONO := Lib.hid (And.intro hON hOO)
        have HBR := Lib.hid hbr
        have x0 := Lib.cell_of_heap hN1 0
        have y0 := Lib.cell_of_heap hN2 0
        simp only [List.getElem?_toArray, List.getElem?_cons_zero, List.getElem?_cons_succ] at x0 y0
        clear hN1 hN2 hN3 hN4 hN5 hON hOO hbr
        by_cases hlt : i < M
        · have hiI : (i : Int) < (M : Int) := by omega
          have hi0 : (0 : Int) ≤ (i : Int) := by omega
          go_upto_region 8 with (at_make; go_must (refine wpList_make_full _ rfl _ _ 24 rfl W4.heap.size 3 ind _ 1 Try.underlying24 hind hzd hsd .i64 .i64 _ _ Kp rfl rfl rfl rfl (by rw [hbd]; omega) (by unfold maxLen; omega) (by omega) ?_))
          intro W6 hown hg6
          rw [made_fill _ (fun v => .int .i64 (rowF i v)), ints_fill] at hown
          have hb6 := (Below.refl _ wo).grown hg6 (Nat.le_refl _) (fun q hq => by cases hq)
          obtain ⟨gr, hgr⟩ : ∃ gr, gr = wo.heap.size := ⟨_, rfl⟩
          rw [← hgr] at hown ⊢
          have HG := Lib.hid hgr
          have HO6 := Lib.hid hown
          have HB6 := Lib.hid hb6
          have x06 := (hb6.cell (p := ⟨w.heap.size, 0, none⟩) (by show w.heap.size < _; omega)).trans x0
          have y06 := (hb6.cell (p := ⟨w.heap.size + 1, 0, none⟩) (by show w.heap.size + 1 < _; omega)).trans y0
          clear hgr hown hg6 hb6
          have hMs : i < (g.side n).out.length * (h.side n).out.length := by rw [HSA.out.1, HSA.out.2, ← HM.out]; exact hlt
          have hRow : ∀ p, p < Kp → (((andH g h).side n).nxt i p : Int) = rowF i p := fun p hp => by
            rw [HSD.out, bothS_nxt (by rw [← HM.out]; exact hlt) (by rw [← HKP.out]; exact hp), HF.out.1]
          have hOut : (((andH g h).side n).tell i : Int) = outF i := by
            rw [HSD.out, bothS_tell (by rw [← HM.out]; exact hlt), HF.out.2]
          have HPL := Lib.hid (And.intro hMs (And.intro hRow hOut))
          clear hMs hRow hOut
          go_upto_region 8 with fail
          go_wp2
          go_loopw [47] (fun pv wr => ∃ p : Nat, pv = .int .i64 p ∧ p ≤ Kp ∧ wr.ownsRow W4.heap.size 3 1 (.slice (some ⟨gr, 0, none⟩) Kp Kp) Kp (ints (fillL (rowF i) 0 Kp p)) ∧ Below wo.heap.size wo wr) (fun pv _ => Kp - (intOf pv).toNat)
          case atStart => exact ⟨0, rfl, Nat.zero_le _, HO6.out, HB6.out⟩
          case round =>
            obtain ⟨p, rfl, hp, hOR, hbw⟩ := hrel
            have hwos : W1.heap.size < wo.heap.size := by omega
            have hT := (hbw.block W1.heap.size hwos).trans HXO.out.2.2.2.1
            have z0 := Lib.cell_of_heap hT 0
            have z1 := Lib.cell_of_heap hT 1
            have z2 := Lib.cell_of_heap hT 2
            have z3 := Lib.cell_of_heap hT 3
            have z4 := Lib.cell_of_heap hT 4
            have z5 := Lib.cell_of_heap hT 5
            have z6 := Lib.cell_of_heap hT 6
            have z7 := Lib.cell_of_heap hT 7
            simp only [List.getElem?_toArray, List.getElem?_cons_zero, List.getElem?_cons_succ] at z0 z1 z2 z3 z4 z5 z6 z7
            have hB2r : Below W2.heap.size W2 wr := HBR.out.trans (hbw.mono HBR.out.size)
            have HOR := Lib.hid hOR
            have HBWO := Lib.hid hbw
            have HB2R := Lib.hid hB2r
            clear hT hOR hbw hB2r
            by_cases hlp : p < Kp
            · have HC := Lib.hid (show Calls Try.prog 51 #[tgVal g h A c B c1 C c2 A' d B' d1 C' d2, .int .i64 (n : Int), .int .i64 (i : Int), .int .i64 (p : Int)] wr fun e w' => e = .returned (.int .i64 (rowF i p)) ∧ Below wr.heap.size wr w' from by
                have h9 := tg_next (HV.out.on HB2R.out) (HV'.out.on HB2R.out) hO hO' hm1 hm2 HLL.out hn HPL.out.1 (t := p) (by rw [HKK.out]; exact hlp)
                rw [HPL.out.2.1 p hlp] at h9
                exact h9)
              have hpI : (p : Int) < (Kp : Int) := by omega
              have hp0 : (0 : Int) ≤ (p : Int) := by omega
              have HFS := Lib.hid (fillL_set (rowF i) 0 hlp)
              go_wp2_with fail
              refine HC.out.mono ?_
              rintro e WA ⟨rfl, bA⟩
              have hOA := own_kept' HOR.out bA
              obtain ⟨cur1, o1, o2, o3, o4, o5, o6⟩ := own_open hOA
              have q0 := (Lib.cell_of_heap o1 p).trans (o6 p _ (ints_atD' (l := fillL (rowF i) 0 Kp p) (by rw [fillL_len]; exact hlp)))
              have fq0 := Lib.frozen_of_heap o1 p
              have hOA2 := own_setz hOA (i := p) (.int .i64 (rowF i p))
              rw [ints_set, HFS.out] at hOA2
              have HOA := Lib.hid hOA2
              have HBA := Lib.hid ((HBWO.out.trans (bA.mono HBWO.out.size)).setCell (p := ⟨gr, p, none⟩) (by rw [HG.out]; exact Nat.le_refl _) (.int .i64 (rowF i p)))
              clear o1 o2 o3 o4 o5 o6 hOA hOA2 bA z0 z1 z2 z3 z4 z5 z6 z7
              generalize rowF i p = rv at *
              go_wp2
              go_roundw
              case rel => exact ⟨p + 1, by go_num, by omega, HOA.out, HBA.out⟩
              case measure => simp [intOf]; omega
            · obtain rfl : Kp = p := by omega
              obtain ⟨wi, rfl⟩ : ∃ wi : World, wi = wr := ⟨_, rfl⟩
              have hwiz := HBWO.out.size
              have hS5 := (HBWO.out.block gS (by omega)).trans HXO.out.2.2.2.2
              have s0 := Lib.cell_of_heap hS5 0
              have s1 := Lib.cell_of_heap hS5 1
              simp only [List.getElem?_toArray, List.getElem?_cons_zero, List.getElem?_cons_succ] at s0 s1
              have hON := own_kept' HONO.out.1 (HBWO.out)
              have hOO := own_kept' HONO.out.2 (HBWO.out)
              have HONI := Lib.hid (And.intro hON hOO)
              obtain ⟨cN, n1, _, _, _, _, n6⟩ := own_open hON
              obtain ⟨cO, o1, _, _, _, _, o6⟩ := own_open hOO
              have k0 := (Lib.cell_of_heap n1 i).trans (n6 i _ (fillL_at F (.slice none 0 0) hlt))
              have fk0 := Lib.frozen_of_heap n1 i
              have l0 := (Lib.cell_of_heap o1 i).trans (o6 i _ (ints_atD' (l := fillL outF 0 M i) (by rw [fillL_len]; exact hlt)))
              have fl0 := Lib.frozen_of_heap o1 i
              have HOUT := Lib.hid (fun w' (hw' : Below wi.heap.size wi w') => show Calls Try.prog 52 #[tgVal g h A c B c1 C c2 A' d B' d1 C' d2, .int .i64 (n : Int), .int .i64 (i : Int)] w' fun e w'' => e = .returned (.int .i64 (outF i)) ∧ Below w'.heap.size w' w'' from by
                have h9 := tg_out (HV.out.on (HB2R.out.trans (hw'.mono HB2R.out.size))) (HV'.out.on (HB2R.out.trans (hw'.mono HB2R.out.size))) hO hO' hm1 hm2 HLL.out hn HPL.out.1
                rw [HPL.out.2.2] at h9
                exact h9)
              have hnNO := HNE.out.1
              have hnON := Ne.symm hnNO
              have hnSN := HNE.out.2.1
              have hnSO := HNE.out.2.2
              have hnT1 : W1.heap.size ≠ gN := by omega
              have hnT2 : W1.heap.size ≠ gO := by omega
              have hnT3 := Ne.symm hnT1
              have hnT4 := Ne.symm hnT2
              have hnS3 := Ne.symm hnSN
              have hnS4 := Ne.symm hnSO
              clear hS5 hON hOO n1 n6 o1 o6 x06 y06
              generalize (if i < i then F i else Value.slice none 0 0) = kv at *
              generalize (fillL outF 0 M i).getD i (-1) = lv at *
              generalize hov : outF i = ov at *
              have HOV := Lib.hid hov
              clear hov
              go_upto_region 13 with fail
              go_region_held3 (fun w' => w'.cell? ⟨gS, 0, none⟩ = some (.slice (some ⟨gN, 0, none⟩) M M) ∧ w'.cell? ⟨gS, 1, none⟩ = some (.slice (some ⟨gO, 0, none⟩) M M) ∧ w'.cell? ⟨W1.heap.size, 0, none⟩ = some (.int .i64 g.K) ∧ w'.cell? ⟨W1.heap.size, 1, none⟩ = some (.slice A g.labs.length c) ∧ w'.cell? ⟨W1.heap.size, 2, none⟩ = some (.slice B g.root.nx.length c1) ∧ w'.cell? ⟨W1.heap.size, 3, none⟩ = some (.slice C g.root.out.length c2) ∧ w'.cell? ⟨W1.heap.size, 4, none⟩ = some (.int .i64 h.K) ∧ w'.cell? ⟨W1.heap.size, 5, none⟩ = some (.slice A' h.labs.length d) ∧ w'.cell? ⟨W1.heap.size, 6, none⟩ = some (.slice B' h.root.nx.length d1) ∧ w'.cell? ⟨W1.heap.size, 7, none⟩ = some (.slice C' h.root.out.length d2))
                (first
                  | exact ⟨s0, s1, z0, z1, z2, z3, z4, z5, z6, z7⟩
                  | exact ⟨t0, t1, t2, t3, t4, t5, t6, t7, t8, t9⟩
                  | go_keep)
                (first
                  | (go_at_call 52; refine (HOUT.out _ (Below.drew (Below.refl _ wi))).mono ?_; rintro e WA ⟨rfl, br⟩; have hbA : Below wi.heap.size wi WA := (Below.drew (Below.refl _ wi)).trans br; have t0 := (hbA.cell (p := ⟨gS, 0, none⟩) (by show gS < _; omega)).trans s0; have t1 := (hbA.cell (p := ⟨gS, 1, none⟩) (by show gS < _; omega)).trans s1; have t2 := (hbA.cell (p := ⟨W1.heap.size, 0, none⟩) (by show W1.heap.size < _; omega)).trans z0; have t3 := (hbA.cell (p := ⟨W1.heap.size, 1, none⟩) (by show W1.heap.size < _; omega)).trans z1; have t4 := (hbA.cell (p := ⟨W1.heap.size, 2, none⟩) (by show W1.heap.size < _; omega)).trans z2; have t5 := (hbA.cell (p := ⟨W1.heap.size, 3, none⟩) (by show W1.heap.size < _; omega)).trans z3; have t6 := (hbA.cell (p := ⟨W1.heap.size, 4, none⟩) (by show W1.heap.size < _; omega)).trans z4; have t7 := (hbA.cell (p := ⟨W1.heap.size, 5, none⟩) (by show W1.heap.size < _; omega)).trans z5; have t8 := (hbA.cell (p := ⟨W1.heap.size, 6, none⟩) (by show W1.heap.size < _; omega)).trans z6; have t9 := (hbA.cell (p := ⟨W1.heap.size, 7, none⟩) (by show W1.heap.size < _; omega)).trans z7; have k1 := (hbA.cell (p := ⟨gN, i, none⟩) (by show gN < _; omega)).trans k0; have fk1 := (hbA.frozen (p := ⟨gN, i, none⟩) (by show gN < _; omega)).trans fk0; have l1 := (hbA.cell (p := ⟨gO, i, none⟩) (by show gO < _; omega)).trans l0; have fl1 := (hbA.frozen (p := ⟨gO, i, none⟩) (by show gO < _; omega)).trans fl0))
              have hgrz := HG.out
              have hbO : Below wo.heap.size wo WA := HBWO.out.trans (hbA.mono hwiz)
              have hFk : ∀ p : Addr, W4.heap.size ≤ p.block → p.block < wo.heap.size → ((WA.setCell ⟨gN, i, none⟩ (.slice (some ⟨gr, 0, none⟩) Kp Kp)).setCell ⟨gO, i, none⟩ (.int .i64 ov)).cell? p = wo.cell? p := fun p h1 h2 => World.cell?_of_block (by
                rw [heap_set_other (p := ⟨gO, i, none⟩) (show p.block ≠ gO by omega), heap_set_other (p := ⟨gN, i, none⟩) (show p.block ≠ gN by omega)]
                exact hbO.block p.block h2)
              have hsz6 : ((WA.setCell ⟨gN, i, none⟩ (.slice (some ⟨gr, 0, none⟩) Kp Kp)).setCell ⟨gO, i, none⟩ (.int .i64 ov)).heap.size = WA.heap.size := by rw [size_set, size_set]
              have hszA := hbO.size
              have hgrN : gr ≠ gN := by omega
              have hgrO : gr ≠ gO := by omega
              have hrw6 := ownsRow_setCell_other (ownsRow_setCell_other (own_kept' HOR.out hbA) (a := ⟨gN, i, none⟩) (fun e => hgrN (by injection e)) (.slice (some ⟨gr, 0, none⟩) Kp Kp)) (a := ⟨gO, i, none⟩) (fun e => hgrO (by injection e)) (.int .i64 ov)
              have hN6 := ownsRow_setCell_other (own_setz (own_kept' HONI.out.1 hbA) (i := i) (.slice (some ⟨gr, 0, none⟩) Kp Kp)) (a := ⟨gO, i, none⟩) (fun e => hnNO (by injection e)) (.int .i64 ov)
              have hO6 := own_setz (ownsRow_setCell_other (own_kept' HONI.out.2 hbA) (a := ⟨gN, i, none⟩) (fun e => hnON (by injection e)) (.slice (some ⟨gr, 0, none⟩) Kp Kp)) (i := i) (.int .i64 ov)
              rw [ints_set, ← HOV.out, fillL_set outF 0 hlt] at hO6
              rw [HOV.out] at hO6
              have hFs : (fillL F (.slice none 0 0) M i).set i (.slice (some ⟨gr, 0, none⟩) Kp Kp) = fillL (fun st => if st = i then .slice (some ⟨gr, 0, none⟩) Kp Kp else F st) (.slice none 0 0) M (i + 1) := by
                rw [fillL_same (F := F) (G := fun st => if st = i then .slice (some ⟨gr, 0, none⟩) Kp Kp else F st) (fun v hv => by show F v = if v = i then _ else F v; rw [if_neg (by omega)])]
                have h9 := fillL_set (fun st => if st = i then Value.slice (some ⟨gr, 0, none⟩) Kp Kp else F st) (.slice none 0 0) hlt
                simp only [if_true] at h9
                exact h9
              rw [hFs] at hN6
              have HREL := Lib.hid (show (∀ st, st < i + 1 → CIsP ((WA.setCell ⟨gN, i, none⟩ (.slice (some ⟨gr, 0, none⟩) Kp Kp)).setCell ⟨gO, i, none⟩ (.int .i64 ov)) (fun q => W4.heap.size ≤ q ∧ q < ((WA.setCell ⟨gN, i, none⟩ (.slice (some ⟨gr, 0, none⟩) Kp Kp)).setCell ⟨gO, i, none⟩ (.int .i64 ov)).heap.size) (rowC ((List.range Kp).map (rowF st))) ((fun st => if st = i then .slice (some ⟨gr, 0, none⟩) Kp Kp else F st) st)) ∧
                  (∀ q, q < W4.heap.size → q ≠ gN → q ≠ gO → ((WA.setCell ⟨gN, i, none⟩ (.slice (some ⟨gr, 0, none⟩) Kp Kp)).setCell ⟨gO, i, none⟩ (.int .i64 ov)).heap[q]? = W4.heap[q]?) ∧ W4.heap.size ≤ ((WA.setCell ⟨gN, i, none⟩ (.slice (some ⟨gr, 0, none⟩) Kp Kp)).setCell ⟨gO, i, none⟩ (.int .i64 ov)).heap.size ∧
                  Below W2.heap.size W2 ((WA.setCell ⟨gN, i, none⟩ (.slice (some ⟨gr, 0, none⟩) Kp Kp)).setCell ⟨gO, i, none⟩ (.int .i64 ov)) from by
                refine ⟨fun st hst => ?_, fun q h1 h2 h3 => ?_, by rw [hsz6]; omega, ?_⟩
                · by_cases e : st = i
                  · subst e
                    simp only [if_true]
                    have h8 := RdP.of_own hrw6
                    rw [fillL_all] at h8
                    have hlen : ((List.range Kp).map (rowF st)).length = Kp := by simp
                    rw [rowC, hlen]
                    simp only [CIsP]
                    exact ⟨_, _, _, rfl, ⟨Nat.le_refl _, by omega⟩, h8, CsIsP.ints _ _ _⟩
                  · simp only [e, if_false]
                    refine CIsP.more (fun b hb => ⟨hb.1, ?_⟩) (CIsP.keep (fun p hp => hFk p hp.1 hp.2) (hF.out st (by omega)))
                    rw [hsz6]
                    omega
                · rw [heap_set_other (p := ⟨gO, i, none⟩) h3, heap_set_other (p := ⟨gN, i, none⟩) h2, hbO.block q (by omega)]
                  exact hfar.out q h1 h2 h3
                · exact ((HB2R.out.trans (hbA.mono HB2R.out.size)).setCell (p := ⟨gN, i, none⟩) (by show W2.heap.size ≤ gN; omega) _).setCell (p := ⟨gO, i, none⟩) (by show W2.heap.size ≤ gO; omega) _)
              have HN6 := Lib.hid (And.intro hN6 hO6)
              clear hgrz hFk hsz6 hrw6 hN6 hO6 hFs hbO br hbA k0 fk0 l0 fl0 t0 t1 t2 t3 t4 t5 t6 t7 t8 t9 k1 fk1 l1 fl1 s0 s1 z0 z1 z2 z3 z4 z5 z6 z7
              go_wp2
              go_roundw
              case rel => exact ⟨i + 1, _, by go_num, by omega, Lib.hid HREL.out.1, HN6.out.1, HN6.out.2, Lib.hid HREL.out.2.1, HREL.out.2.2.1, HREL.out.2.2.2⟩
              case measure => simp [intOf]; omega
        · obtain rfl : M = i := by omega
          have c0 := Lib.cell_of_heap HXO.out.2.2.2.2 0
          have c1 := Lib.cell_of_heap HXO.out.2.2.2.2 1
          have e0 := Lib.cell_of_heap HXO.out.2.2.1 0
          have e1 := Lib.cell_of_heap HXO.out.2.2.1 1
          have f0 := Lib.frozen_of_heap HXO.out.2.2.1 0
          have f1 := Lib.frozen_of_heap HXO.out.2.2.1 1
          simp only [List.getElem?_toArray, List.getElem?_cons_zero, List.getElem?_cons_succ] at c0 c1 e0 e1
          have hgN : gN ≠ w.heap.size + 1 + 1 := by omega
          have hgO : gO ≠ w.heap.size + 1 + 1 := by omega
          have HRET := Lib.hid (show BothRet w ((andH g h).side n) (.returned (.agg #[.slice (some ⟨gN, 0, none⟩) M M, .slice (some ⟨gO, 0, none⟩) M M])) ((wo.setCell ⟨w.heap.size + 1 + 1, 0, none⟩ (.slice (some ⟨gN, 0, none⟩) M M)).setCell ⟨w.heap.size + 1 + 1, 1, none⟩ (.slice (some ⟨gO, 0, none⟩) M M)) from by
            have hnl : ((andH g h).side n).nx.length = M := by rw [HSD.out, bothS_nx, ← HM.out]
            have hol : ((andH g h).side n).out.length = M := by rw [HSD.out, bothS_out, ← HM.out]
            have hsz6 : ((wo.setCell ⟨w.heap.size + 1 + 1, 0, none⟩ (.slice (some ⟨gN, 0, none⟩) M M)).setCell ⟨w.heap.size + 1 + 1, 1, none⟩ (.slice (some ⟨gO, 0, none⟩) M M)).heap.size = wo.heap.size := by rw [size_set, size_set]
            have hw0 := HBB.out.size
            have hA := ownsRow_setCell_other (ownsRow_setCell_other HONO.out.1 (a := ⟨w.heap.size + 1 + 1, 0, none⟩) (fun e => hgN (by injection e)) (.slice (some ⟨gN, 0, none⟩) M M)) (a := ⟨w.heap.size + 1 + 1, 1, none⟩) (fun e => hgN (by injection e)) (.slice (some ⟨gO, 0, none⟩) M M)
            have hB := ownsRow_setCell_other (ownsRow_setCell_other HONO.out.2 (a := ⟨w.heap.size + 1 + 1, 0, none⟩) (fun e => hgO (by injection e)) (.slice (some ⟨gN, 0, none⟩) M M)) (a := ⟨w.heap.size + 1 + 1, 1, none⟩) (fun e => hgO (by injection e)) (.slice (some ⟨gO, 0, none⟩) M M)
            rw [fillL_all] at hA hB
            refine ⟨some ⟨gN, 0, none⟩, M, some ⟨gO, 0, none⟩, M, by show _ = Ending.returned (.agg #[.slice _ ((andH g h).side n).nx.length M, .slice _ ((andH g h).side n).out.length M]); rw [hnl, hol], ⟨?_, by rw [hnl]; exact ⟨Nat.le_refl _, by omega⟩, ?_, by rw [hol]; exact ⟨Nat.le_refl _, by omega⟩⟩, ((HB2.out.trans (HBR.out.mono (by omega))).setCell (p := ⟨w.heap.size + 1 + 1, 0, none⟩) (by show w.heap.size ≤ w.heap.size + 1 + 1; omega) _).setCell (p := ⟨w.heap.size + 1 + 1, 1, none⟩) (by show w.heap.size ≤ w.heap.size + 1 + 1; omega) _⟩
            · rw [hnl]
              refine ⟨_, RdP.of_own hA, ?_⟩
              have e1 : ((andH g h).side n).nx.map rowC = (List.range M).map fun st => rowC ((List.range Kp).map (rowF st)) := by
                rw [HSD.out, bothS, ← HM.out, ← HKP.out, HF.out.1, List.map_map]
                rfl
              rw [e1]
              refine CsIsP.of_each M fun v hv => CIsP.more (fun b hb => ?_) (CIsP.keep (fun p hp => World.cell?_of_block ?_) (hF.out v hv))
              · show w.heap.size ≤ b ∧ b < _
                rw [hsz6]
                exact ⟨by omega, hb.2⟩
              · rw [heap_set_other (p := ⟨w.heap.size + 1 + 1, 1, none⟩) (show p.block ≠ w.heap.size + 1 + 1 by omega), heap_set_other (p := ⟨w.heap.size + 1 + 1, 0, none⟩) (show p.block ≠ w.heap.size + 1 + 1 by omega)]
            · rw [hol]
              have e1 : ((andH g h).side n).out = (List.range M).map outF := by
                rw [HSD.out, bothS, ← HM.out, HF.out.2]
              rw [e1]
              exact ⟨_, RdP.of_own hB, CsIsP.ints _ _ _⟩)
          have HTS := Lib.hid (two_stored HXO.out.2.2.1 (.slice (some ⟨gN, 0, none⟩) M M) (.slice (some ⟨gO, 0, none⟩) M M))
          clear hF hfar
          go_wp2
          exact ret_sd rfl rfl rfl HTS.out HRET.out
end Go.Proofs.Ytbipdnnalhdoaaa
