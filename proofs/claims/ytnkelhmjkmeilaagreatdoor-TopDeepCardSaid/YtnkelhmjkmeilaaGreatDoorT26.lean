/- The machine of two automata, in memory. -/
import Derived.Test.YtnkelhmjkmeilaaGreatDoorT19
import Derived.Test.YtnkelhmjkmeilaaGreatDoorT25
section
namespace Go.Proofs.YtnkelhmjkmeilaaGreatDoor.H
open Go.RowKit Go.Maps Go.WideMaps
attribute [local go_sem ↓] Go.wp_at_zero Go.wp_at_succ
set_option maxHeartbeats 1000000 in
set_option maxRecDepth 100000 in
theorem side_anyS {w : World} {S : Nat → Prop} (hS : ∀ b, S b → b < w.heap.size) {h : Hd} {A B C : Option Addr} {c c1 c2 : Nat} (H : HdV w S h A c B c1 C c2) (n : Nat) :
    Calls Tryz.prog 296 #[hdVal h A c B c1 C c2, .int .i64 (n : Int)] w fun e w' => ∃ B c1 C c2, e = .returned (sdVal (h.side n) B c1 C c2) ∧ SdV w S (h.side n) B c1 C c2 ∧ Below w.heap.size w w' := by
  have hB0 := (Below.refl _ w).alloc (Nat.le_refl _) (.cells #[.int .i64 h.K, .slice A h.labs.length c, .slice B h.root.nx.length c1, .slice C h.root.out.length c2] 115)
  have hs0 : (w.alloc (.cells #[.int .i64 h.K, .slice A h.labs.length c, .slice B h.root.nx.length c1, .slice C h.root.out.length c2] 115)).heap.size = w.heap.size + 1 := World.size_alloc _ _
  have hx0 := heap_alloc_new w (.cells #[.int .i64 h.K, .slice A h.labs.length c, .slice B h.root.nx.length c1, .slice C h.root.out.length c2] 115)
  have hB1 := hB0.alloc (by omega) (.cells #[.slice none 0 0, .slice none 0 0] 113)
  have hx1 := heap_alloc_new (w.alloc (.cells #[.int .i64 h.K, .slice A h.labs.length c, .slice B h.root.nx.length c1, .slice C h.root.out.length c2] 115)) (.cells #[.slice none 0 0, .slice none 0 0] 113)
  have hx0' := (Below.heap_alloc (w.alloc (.cells #[.int .i64 h.K, .slice A h.labs.length c, .slice B h.root.nx.length c1, .slice C h.root.out.length c2] 115)) (.cells #[.slice none 0 0, .slice none 0 0] 113) w.heap.size (by omega)).trans hx0
  rw [hs0] at hx1
  go_enter Tryz.func296, Tryz.ntmps296
  go_upto_region 1 with fail
  generalize (w.alloc (.cells #[.int .i64 h.K, .slice A h.labs.length c, .slice B h.root.nx.length c1, .slice C h.root.out.length c2] 115)).alloc (.cells #[.slice none 0 0, .slice none 0 0] 113) = W2 at *
  have x1 := Lib.cell_of_heap hx0' 1
  have x2 := Lib.cell_of_heap hx0' 2
  have x3 := Lib.cell_of_heap hx0' 3
  have y0 := Lib.cell_of_heap hx1 0
  have y1 := Lib.cell_of_heap hx1 1
  have f0 := Lib.frozen_of_heap hx1 0
  have f1 := Lib.frozen_of_heap hx1 1
  simp only [List.getElem?_toArray, List.getElem?_cons_zero, List.getElem?_cons_succ] at x1 x2 x3 y0 y1
  have HB := Lib.hid hB1
  have HX := Lib.hid hx1
  clear hB0 hs0 hx0 hx0' hx1
  by_cases hn : n < h.labs.length
  · obtain ⟨a, B', c1', C', c2', rfl, hab, k0, k1, hsd⟩ := labs_at H.labs (Hd.side_lt hn)
    have hnI : (n : Int) < (h.labs.length : Int) := by omega
    have hn0 : (0 : Int) ≤ (n : Int) := by omega
    replace k0 := (hB1.cell (p := a.add (n * 2)) (by rw [block_add]; exact hS _ hab)).trans k0
    replace k1 := (hB1.cell (p := ⟨(a.add (n * 2)).block, (a.add (n * 2)).off + 1, none⟩) (by show (a.add (n * 2)).block < _; rw [block_add]; exact hS _ hab)).trans k1
    have HS := Lib.hid hsd
    clear hsd hB1 H
    go_wp2
    exact ret_sd rfl rfl rfl (two_stored HX.out _ _) ⟨B', c1', C', c2', rfl, HS.out, (HB.out.setCell (p := ⟨w.heap.size + 1, 0, none⟩) (by simp only []; omega) _).setCell (p := ⟨w.heap.size + 1, 1, none⟩) (by simp only []; omega) _⟩
  · have hnI : ¬ (n : Int) < (h.labs.length : Int) := by omega
    have hsd := Hd.side_ge (h := h) (n := n) (by omega)
    have HS := Lib.hid (And.intro H.root hsd)
    clear hsd hB1 H
    go_wp2
    exact ret_sd rfl rfl rfl (two_stored HX.out _ _) ⟨B, c1, C, c2, by rw [HS.out.2], by rw [HS.out.2]; exact HS.out.1, (HB.out.setCell (p := ⟨w.heap.size + 1, 0, none⟩) (by simp only []; omega) _).setCell (p := ⟨w.heap.size + 1, 1, none⟩) (by simp only []; omega) _⟩
theorem mth_tl (k : Nat) (v : Value) (w : World) : (method (k + 1) 150 v "strainer/hedge.labels").run Tryz.prog w = .ok (293, v) w := by kernel_rfl
theorem mth_tn (k : Nat) (v : Value) (w : World) : (method (k + 1) 150 v "strainer/hedge.next").run Tryz.prog w = .ok (294, v) w := by kernel_rfl
theorem mth_to (k : Nat) (v : Value) (w : World) : (method (k + 1) 150 v "strainer/hedge.out").run Tryz.prog w = .ok (295, v) w := by kernel_rfl
theorem cf_tl (args : Array Value) (w : World) : (callFunc 293 args).run Tryz.prog w = .ok (.enter 293 args) w := by kernel_rfl
theorem cf_tn (args : Array Value) (w : World) : (callFunc 294 args).run Tryz.prog w = .ok (.enter 294 args) w := by kernel_rfl
theorem cf_to (args : Array Value) (w : World) : (callFunc 295 args).run Tryz.prog w = .ok (.enter 295 args) w := by kernel_rfl
abbrev tgVal (g h : Hd) (A : Option Addr) (c : Nat) (B : Option Addr) (c1 : Nat) (C : Option Addr) (c2 : Nat) (A' : Option Addr) (d : Nat) (B' : Option Addr) (d1 : Nat) (C' : Option Addr) (d2 : Nat) : Value :=
  .agg #[.int .i64 g.K, .slice A g.labs.length c, .slice B g.root.nx.length c1, .slice C g.root.out.length c2, .int .i64 h.K, .slice A' h.labs.length d, .slice B' h.root.nx.length d1, .slice C' h.root.out.length d2]
section
variable {w : World} {g h : Hd} {A B C A' B' C' : Option Addr} {c c1 c2 d d1 d2 : Nat}
theorem tg_labels {k1 k2 : Int} {n n1 n2 n3 n4 n5 : Nat} : Calls Tryz.prog 293 #[.agg #[.int .i64 k1, .slice A n c, .slice B n1 c1, .slice C n2 c2, .int .i64 k2, .slice A' n3 d, .slice B' n4 d1, .slice C' n5 d2]] w fun e w' => e = .returned (.int .i64 (n : Int)) ∧ Below w.heap.size w w' := by
  go_enter Tryz.func293, Tryz.ntmps293
  go_wp2
  go_ret
  exact ⟨rfl, (Below.refl _ w).alloc (Nat.le_refl _) _⟩
theorem bal {a w : World} (h : Below a.heap.size a w) (o : Obj) : Below a.heap.size a (w.alloc o) := h.alloc h.size o
theorem bset {a w : World} {p : Addr} (h : Below a.heap.size a w) (hp : a.heap.size ≤ p.block) (v : Value) : Below a.heap.size a (w.setCell p v) := h.setCell hp v
theorem lt_al (X : World) (o : Obj) : X.heap.size < (X.alloc o).heap.size := by rw [World.size_alloc]; omega
theorem lt_al2 (X : World) (o o' : Obj) : X.heap.size < ((X.alloc o).alloc o').heap.size := by rw [World.size_alloc, World.size_alloc]; omega
theorem heap_al2 (X : World) (c : Array Value) (t : TypeId) (o' : Obj) : ((X.alloc (.cells c t)).alloc o').heap[X.heap.size]? = some (.cells c t (0, 0)) := (Below.heap_alloc _ _ _ (lt_al X _)).trans (heap_alloc_new X _)
def NewB (W : World) (q : Nat) : Prop := W.heap[q]? = some (.cells #[.slice none 0 0, .slice none 0 0] 113 (0, 0))
theorem NewB.facts {W : World} {q : Nat} (h : NewB W q) : W.frozen? ⟨q, 0, none⟩ = false ∧ W.frozen? ⟨q, 1, none⟩ = false ∧ W.cell? ⟨q, 0, none⟩ = some (.slice none 0 0) ∧ W.cell? ⟨q, 1, none⟩ = some (.slice none 0 0) ∧
    (∀ o : Obj, (W.alloc o).frozen? ⟨q, 0, none⟩ = false) ∧ (∀ o : Obj, (W.alloc o).frozen? ⟨q, 1, none⟩ = false) ∧ (∀ o : Obj, (W.alloc o).cell? ⟨q, 0, none⟩ = some (.slice none 0 0)) ∧ (∀ o : Obj, (W.alloc o).cell? ⟨q, 1, none⟩ = some (.slice none 0 0)) ∧ q ≠ W.heap.size ∧ W.heap.size ≠ q :=
  have hl := (Array.getElem?_eq_some_iff.1 h).1
  have h' := fun o : Obj => (Below.heap_alloc W o q hl).trans h
  ⟨Lib.frozen_of_heap h 0, Lib.frozen_of_heap h 1, Lib.cell_of_heap h 0, Lib.cell_of_heap h 1, fun o => Lib.frozen_of_heap (h' o) 0, fun o => Lib.frozen_of_heap (h' o) 1, fun o => Lib.cell_of_heap (h' o) 0, fun o => Lib.cell_of_heap (h' o) 1, Nat.ne_of_lt hl, Nat.ne_of_gt hl⟩
theorem NewB.one {X WA : World} (br : Below (X.alloc (.cells #[.slice none 0 0, .slice none 0 0] 113)).heap.size (X.alloc (.cells #[.slice none 0 0, .slice none 0 0] 113)) WA) : NewB WA X.heap.size := (br.block _ (lt_al _ _)).trans (heap_alloc_new _ _)
theorem NewB.two {X WA : World} {o : Obj} (br : Below ((X.alloc (.cells #[.slice none 0 0, .slice none 0 0] 113)).alloc o).heap.size ((X.alloc (.cells #[.slice none 0 0, .slice none 0 0] 113)).alloc o) WA) : NewB WA X.heap.size := (br.block _ (lt_al2 _ _ _)).trans (heap_al2 _ _ _ _)
theorem NewB.snd {X WA : World} {o : Obj} (br : Below ((X.alloc o).alloc (.cells #[.slice none 0 0, .slice none 0 0] 113)).heap.size ((X.alloc o).alloc (.cells #[.slice none 0 0, .slice none 0 0] 113)) WA) : NewB WA (X.heap.size + 1) := by
  have h := NewB.one br
  rw [World.size_alloc] at h
  exact h
theorem NewB.one0 {X WA : World} (br : Below (X.alloc (.cells #[.slice none 0 0, .slice none 0 0] 113)).drew.heap.size (X.alloc (.cells #[.slice none 0 0, .slice none 0 0] 113)).drew WA) : NewB WA X.heap.size := (br.block _ (lt_al X _)).trans (heap_alloc_new X _)
theorem NewB.two0 {X WA : World} {o : Obj} (br : Below ((X.alloc (.cells #[.slice none 0 0, .slice none 0 0] 113)).alloc o).drew.heap.size ((X.alloc (.cells #[.slice none 0 0, .slice none 0 0] 113)).alloc o).drew WA) : NewB WA X.heap.size := (br.block _ (lt_al2 X _ _)).trans (heap_al2 X _ _ _)
theorem NewB.snd0 {X WA : World} {o : Obj} (br : Below ((X.alloc o).alloc (.cells #[.slice none 0 0, .slice none 0 0] 113)).drew.heap.size ((X.alloc o).alloc (.cells #[.slice none 0 0, .slice none 0 0] 113)).drew WA) : NewB WA (X.heap.size + 1) := by
  have h : NewB WA (X.alloc o).heap.size := NewB.one0 br
  rw [World.size_alloc] at h
  exact h
theorem NewB.on {W WA : World} {q : Nat} (h : NewB W q) (br : Below W.heap.size W WA) : NewB WA q := (br.block q (Array.getElem?_eq_some_iff.1 h).1).trans h
theorem NewB.on1 {W WA : World} {q : Nat} {o : Obj} (h : NewB W q) (br : Below (W.alloc o).heap.size (W.alloc o) WA) : NewB WA q :=
  have hl := (Array.getElem?_eq_some_iff.1 h).1
  (br.block q (Nat.lt_trans hl (lt_al _ _))).trans ((Below.heap_alloc _ _ _ hl).trans h)
def TwoCut (W1 W : World) (a b : Sd) (na nb : Nat) : Prop := ∃ B c1 C c2 B' d1 C' d2, (W.cell? ⟨na, 0, none⟩ = some (.slice B a.nx.length c1) ∧ W.cell? ⟨na, 1, none⟩ = some (.slice C a.out.length c2) ∧ W.cell? ⟨nb, 0, none⟩ = some (.slice B' b.nx.length d1) ∧ W.cell? ⟨nb, 1, none⟩ = some (.slice C' b.out.length d2)) ∧
  SdV W1 (fun b => b < W1.heap.size) a B c1 C c2 ∧ SdV W1 (fun b => b < W1.heap.size) b B' d1 C' d2 ∧ Below W1.heap.size W1 W
theorem TwoCut.mk {W1 W : World} {a b : Sd} {na nb : Nat} {B C B' C' : Option Addr} {c1 c2 d1 d2 : Nat} (h1 : SdV W1 (fun b => b < W1.heap.size) a B c1 C c2) (h2 : SdV W1 (fun b => b < W1.heap.size) b B' d1 C' d2) (x0 : W.cell? ⟨na, 0, none⟩ = some (.slice B a.nx.length c1)) (x1 : W.cell? ⟨na, 1, none⟩ = some (.slice C a.out.length c2)) (x2 : W.cell? ⟨nb, 0, none⟩ = some (.slice B' b.nx.length d1)) (x3 : W.cell? ⟨nb, 1, none⟩ = some (.slice C' b.out.length d2))
    (hb : Below W1.heap.size W1 W) : TwoCut W1 W a b na nb := ⟨B, c1, C, c2, B', d1, C', d2, ⟨x0, x1, x2, x3⟩, h1, h2, hb⟩
set_option maxHeartbeats 4000000 in
set_option maxRecDepth 100000 in
theorem tg_out {m1 m2 n s : Nat} (H : HdV w (fun b => b < w.heap.size) g A c B c1 C c2) (H' : HdV w (fun b => b < w.heap.size) h A' d B' d1 C' d2) (hO : HdOk g m1) (hO' : HdOk h m2) (hm1 : m1 ≤ 400) (hm2 : m2 ≤ 400) (hL : g.labs.length = h.labs.length) (hn : n ≤ g.labs.length) (hs : s < (g.side n).out.length * (h.side n).out.length) :
    Calls Tryz.prog 295 #[tgVal g h A c B c1 C c2 A' d B' d1 C' d2, .int .i64 (n : Int), .int .i64 (s : Int)] w fun e w' => e = .returned (.int .i64 (((andH g h).side n).tell s : Int)) ∧ Below w.heap.size w w' := by
  have hB0 := (Below.refl _ w).alloc (Nat.le_refl _) (.cells #[.int .i64 g.K, .slice A g.labs.length c, .slice B g.root.nx.length c1, .slice C g.root.out.length c2, .int .i64 h.K, .slice A' h.labs.length d, .slice B' h.root.nx.length d1, .slice C' h.root.out.length d2] 150)
  have hx0 := heap_alloc_new w (.cells #[.int .i64 g.K, .slice A g.labs.length c, .slice B g.root.nx.length c1, .slice C g.root.out.length c2, .int .i64 h.K, .slice A' h.labs.length d, .slice B' h.root.nx.length d1, .slice C' h.root.out.length d2] 150)
  have HLL := Lib.hid hL
  clear hL
  go_enter Tryz.func295, Tryz.ntmps295
  go_upto_region 1 with fail
  generalize w.alloc (.cells #[.int .i64 g.K, .slice A g.labs.length c, .slice B g.root.nx.length c1, .slice C g.root.out.length c2, .int .i64 h.K, .slice A' h.labs.length d, .slice B' h.root.nx.length d1, .slice C' h.root.out.length d2] 150) = W1 at *
  have x0 := Lib.cell_of_heap hx0 0
  have x1 := Lib.cell_of_heap hx0 1
  have x2 := Lib.cell_of_heap hx0 2
  have x3 := Lib.cell_of_heap hx0 3
  have x4 := Lib.cell_of_heap hx0 4
  have x5 := Lib.cell_of_heap hx0 5
  have x6 := Lib.cell_of_heap hx0 6
  have x7 := Lib.cell_of_heap hx0 7
  simp only [List.getElem?_toArray, List.getElem?_cons_zero, List.getElem?_cons_succ] at x0 x1 x2 x3 x4 x5 x6 x7
  have hwl := (Array.getElem?_eq_some_iff.1 hx0).1
  have r0 := fun w' (hw' : Below W1.heap.size W1 w') => (hw'.cell (p := ⟨w.heap.size, 0, none⟩) hwl).trans x0
  have r1 := fun w' (hw' : Below W1.heap.size W1 w') => (hw'.cell (p := ⟨w.heap.size, 1, none⟩) hwl).trans x1
  have r2 := fun w' (hw' : Below W1.heap.size W1 w') => (hw'.cell (p := ⟨w.heap.size, 2, none⟩) hwl).trans x2
  have r3 := fun w' (hw' : Below W1.heap.size W1 w') => (hw'.cell (p := ⟨w.heap.size, 3, none⟩) hwl).trans x3
  have r4 := fun w' (hw' : Below W1.heap.size W1 w') => (hw'.cell (p := ⟨w.heap.size, 4, none⟩) hwl).trans x4
  have r5 := fun w' (hw' : Below W1.heap.size W1 w') => (hw'.cell (p := ⟨w.heap.size, 5, none⟩) hwl).trans x5
  have r6 := fun w' (hw' : Below W1.heap.size W1 w') => (hw'.cell (p := ⟨w.heap.size, 6, none⟩) hwl).trans x6
  have r7 := fun w' (hw' : Below W1.heap.size W1 w') => (hw'.cell (p := ⟨w.heap.size, 7, none⟩) hwl).trans x7
  have HB := Lib.hid hB0
  have HX0 := Lib.hid hx0
  have HV := Lib.hid (H.on hB0)
  have HV' := Lib.hid (H'.on hB0)
  have HSa : Hid (∀ w', Below W1.heap.size W1 w' → Calls Tryz.prog 296 #[hdVal g A c B c1 C c2, .int .i64 (n : Int)] w' fun e w'' => ∃ B c1 C c2, e = .returned (sdVal (g.side n) B c1 C c2) ∧ SdV W1 (fun b => b < W1.heap.size) (g.side n) B c1 C c2 ∧ Below w'.heap.size w' w'') :=
    Lib.hid fun w' hw' => (side_anyS (S := fun b => b < W1.heap.size) (fun b hb => Nat.lt_of_lt_of_le hb hw'.size) (HV.out.keep fun p hp => hw'.cell hp) n).mono fun e w'' ⟨B, c1, C, c2, e1, e2, e3⟩ => ⟨B, c1, C, c2, e1, e2.keep fun p hp => (hw'.cell hp).symm, e3⟩
  have HSb : Hid (∀ w', Below W1.heap.size W1 w' → Calls Tryz.prog 296 #[hdVal h A' d B' d1 C' d2, .int .i64 (n : Int)] w' fun e w'' => ∃ B c1 C c2, e = .returned (sdVal (h.side n) B c1 C c2) ∧ SdV W1 (fun b => b < W1.heap.size) (h.side n) B c1 C c2 ∧ Below w'.heap.size w' w'') :=
    Lib.hid fun w' hw' => (side_anyS (S := fun b => b < W1.heap.size) (fun b hb => Nat.lt_of_lt_of_le hb hw'.size) (HV'.out.keep fun p hp => hw'.cell hp) n).mono fun e w'' ⟨B, c1, C, c2, e1, e2, e3⟩ => ⟨B, c1, C, c2, e1, e2.keep fun p hp => (hw'.cell hp).symm, e3⟩
  obtain ⟨IsH, hI1, hI2, HSS⟩ : ∃ R : Value → Sd → Prop, R (hdVal g A c B c1 C c2) (g.side n) ∧ R (hdVal h A' d B' d1 C' d2) (h.side n) ∧ Hid (∀ w', Below W1.heap.size W1 w' → ∀ v sd, R v sd → Calls Tryz.prog 296 #[v, .int .i64 (n : Int)] w' fun e w'' => ∃ B c1 C c2, e = .returned (sdVal sd B c1 C c2) ∧ SdV W1 (fun b => b < W1.heap.size) sd B c1 C c2 ∧ Below w'.heap.size w' w'') :=
    ⟨fun v sd => ∀ w', Below W1.heap.size W1 w' → Calls Tryz.prog 296 #[v, .int .i64 (n : Int)] w' fun e w'' => ∃ B c1 C c2, e = .returned (sdVal sd B c1 C c2) ∧ SdV W1 (fun b => b < W1.heap.size) sd B c1 C c2 ∧ Below w'.heap.size w' w'', HSa.out, HSb.out, Lib.hid fun w' hw' _ _ h => h w' hw'⟩
  have hb0 : Below W1.heap.size W1 W1 := Below.refl _ _
  clear hB0 hx0 H H' x0 x1 x2 x3 x4 x5 x6 x7 HSa HSb
  have heq : ((andH g h).side n).tell s = if n < g.labs.length then (g.side n).tell (s / (h.side n).out.length) * h.K.toNat + (h.side n).tell (s % (h.side n).out.length) else (g.side n).tell (s / (h.side n).out.length) * (h.side n).tell (s % (h.side n).out.length) := by
    rw [and_side HLL.out, bothS_tell hs, outP]
    by_cases hn' : n < g.labs.length
    · rw [if_pos hn', decide_eq_false (show ¬ g.labs.length ≤ n by omega)]; rfl
    · rw [if_neg hn', decide_eq_true (show g.labs.length ≤ n by omega)]; rfl
  have HEQ := Lib.hid heq
  clear heq
  have hna := Nat.le_trans (hO.sideOk n).2 hm1
  have hnb := Nat.le_trans (hO'.sideOk n).2 hm2
  have HSD := Lib.hid (And.intro (hO.sideOk n).1 (hO'.sideOk n).1)
  generalize g.side n = sa at *
  generalize h.side n = sb at *
  go_cut [7, 8] (fun s7 s8 wx => ∃ na nb, s7 = .pointer (some ⟨na, 0, none⟩) ∧ s8 = .pointer (some ⟨nb, 0, none⟩) ∧ TwoCut W1 wx sa sb na nb)
  case first =>
    go_region_held3 (fun w' => Below W1.heap.size W1 w')
      (repeat (first | assumption | with_reducible refine Below.drew ?_ | with_reducible refine bt (a := W1) ?_ br | with_reducible refine bal ?_ _ | with_reducible refine bset ?_ (by first | exact hsz | (simp only []; omega)) _))
      (first
        | (go_at_call 296; refine (HSS.out _ (by assumption) _ _ (by assumption)).mono ?_; rintro e WA ⟨B1, c11, C1, c12, rfl, h1, br⟩; have hbw : Below W1.heap.size W1 WA := bt (by assumption) br; have hsz : W1.heap.size ≤ WA.heap.size := hbw.size; (try (have hn1 := NewB.one br; obtain ⟨g10, g11, g12, g13, g14, g15, g16, g17, g18, g19⟩ := hn1.facts)); (try (have hn2 := NewB.two br; obtain ⟨g20, g21, g22, g23, g24, g25, g26, g27, g28, g29⟩ := hn2.facts)); (try (have hn5 := NewB.snd br; obtain ⟨g50, g51, g52, g53, g54, g55, g56, g57, g58, g59⟩ := hn5.facts)); (try (have hn6 := NewB.one0 br; obtain ⟨g60, g61, g62, g63, g64, g65, g66, g67, g68, g69⟩ := hn6.facts)); (try (have hn7 := NewB.two0 br; obtain ⟨g70, g71, g72, g73, g74, g75, g76, g77, g78, g79⟩ := hn7.facts)); (try (have hn8 := NewB.snd0 br; obtain ⟨g80, g81, g82, g83, g84, g85, g86, g87, g88, g89⟩ := hn8.facts)); (try (have hn3 : NewB WA W1.heap.size := (by with_reducible first | exact NewB.on (by assumption) br | exact NewB.on1 (by assumption) br); obtain ⟨g30, g31, g32, g33, g34, g35, g36, g37, g38, g39⟩ := hn3.facts)); (try (have hn4 : NewB WA (W1.heap.size + 1) := (by with_reducible first | exact NewB.on (by assumption) br | exact NewB.on1 (by assumption) br); obtain ⟨g40, g41, g42, g43, g44, g45, g46, g47, g48, g49⟩ := hn4.facts))))
    all_goals
      go_wp2_with fail
      go_meet
      refine ⟨_, _, rfl, rfl, TwoCut.mk (by assumption) (by assumption) ?_ ?_ ?_ ?_ ?_⟩
      · go_simp
      · go_simp
      · go_simp
      · go_simp
      · (repeat (first | assumption | with_reducible refine Below.drew ?_ | with_reducible refine bt (a := W1) ?_ br | with_reducible refine bal ?_ _ | with_reducible refine bset ?_ (by first | exact hsz | (simp only []; omega)) _))
  case rest =>
    obtain ⟨na, nb, rfl, rfl, B1, c11, C1, c12, B2, c21, C2, c22, ⟨y0, y1, y2, y3⟩, h1, h2, hb⟩ := hcut
    rename World => W2
    have HB2 := Lib.hid hb
    have x0 := r0 W2 hb
    have x1 := r1 W2 hb
    have x2 := r2 W2 hb
    have x3 := r3 W2 hb
    have x4 := r4 W2 hb
    have x5 := r5 W2 hb
    have x6 := r6 W2 hb
    have x7 := r7 W2 hb
    obtain ⟨K, hK⟩ : ∃ K : Nat, h.K = (K : Int) := ⟨h.K.toNat, (Int.toNat_of_nonneg (by have := hO'.K1; omega)).symm⟩
    have hKt : h.K.toNat = K := by rw [hK]; exact Int.toNat_natCast K
    have hK4 : K ≤ 400 := by have := hO'.fewK; omega
    have hG4 : g.K.toNat ≤ 400 := by have := hO.fewK; omega
    rw [hK] at x4
    obtain ⟨hs1, hs2⟩ := div_lt' hs
    obtain ⟨t1, t2⟩ := HSD.out.1.tell hs1
    obtain ⟨t3, t4⟩ := HSD.out.2.tell hs2
    obtain ⟨a1, rfl, ha1, q1⟩ := ints_at' (h1.on hb).out t1
    obtain ⟨a2, rfl, ha2, q2⟩ := ints_at' (h2.on hb).out t3
    have hm0 : 0 < sb.out.length := Nat.lt_of_le_of_lt (Nat.zero_le _) hs2
    have hsb : s ≤ 160000 := Nat.le_trans (Nat.le_of_lt hs) (Nat.mul_le_mul hna hnb)
    have hdv : (s : Int) / (sb.out.length : Int) = ((s / sb.out.length : Nat) : Int) := (Int.natCast_ediv _ _).symm
    have hmd : (s : Int) % (sb.out.length : Int) = ((s % sb.out.length : Nat) : Int) := (Int.natCast_emod _ _).symm
    generalize s / sb.out.length = sp at *
    generalize s % sb.out.length = sr at *
    have hs1I : (sp : Int) < (sa.out.length : Int) := Int.ofNat_lt.2 hs1
    have hs2I : (sr : Int) < (sb.out.length : Int) := Int.ofNat_lt.2 hs2
    have hs10 : (0 : Int) ≤ (sp : Int) := Int.natCast_nonneg _
    have hs20 : (0 : Int) ≤ (sr : Int) := Int.natCast_nonneg _
    clear hs r0 r1 r2 r3 r4 r5 r6 r7 HSS hI1 hI2 hb h1 h2 t1 t3
    go_upto_region 3 with fail
    go_quiet (fail)
    have HB3 := Lib.hid (show Below W1.heap.size W1 (W2.drewN nq) from HB2.out.trans ⟨rfl, rfl, rfl, Nat.le_refl _, fun _ _ => rfl⟩)
    have hb1 : sa.tell sp ≤ 400 := by split at t2 <;> omega
    have hb2 : sb.tell sr ≤ 400 := by split at t4 <;> omega
    clear t2 t4
    generalize sa.tell sp = x at *
    generalize sb.tell sr = y at *
    have hxy : x * y ≤ 160000 := Nat.le_trans (Nat.mul_le_mul hb1 hb2) (by decide)
    have hxK : x * K ≤ 160000 := Nat.le_trans (Nat.mul_le_mul hb1 hK4) (by decide)
    have hxyI : (x : Int) * (y : Int) ≤ 160000 := by have := Int.natCast_mul x y; omega
    have hxKI : (x : Int) * (K : Int) ≤ 160000 := by have := Int.natCast_mul x K; omega
    have hxy0 : (0 : Int) ≤ (x : Int) * (y : Int) := by have := Int.natCast_mul x y; omega
    have hxK0 : (0 : Int) ≤ (x : Int) * (K : Int) := by have := Int.natCast_mul x K; omega
    have gw1 : IntKind.i64.wrap ((x : Int) * (y : Int)) = (x : Int) * (y : Int) := IntWalk.i64_in _ (by omega)
    have gw2 : IntKind.i64.wrap ((x : Int) * (K : Int)) = (x : Int) * (K : Int) := IntWalk.i64_in _ (by omega)
    have gw3 : IntKind.i64.wrap ((x : Int) * (K : Int) + (y : Int)) = (x : Int) * (K : Int) + (y : Int) := IntWalk.i64_in _ (by omega)
    go_wp2_with fail
    refine tg_labels.mono ?_
    rintro e W4 ⟨rfl, b4⟩
    have HB4 := Lib.hid (HB.out.trans ((HB3.out.trans (b4.mono HB3.out.size)).mono HB.out.size))
    have x4' := (b4.cell (p := ⟨w.heap.size, 4, none⟩) (Nat.lt_of_lt_of_le hwl HB3.out.size)).trans x4
    clear b4 x0 x1 x2 x3 x4 x5 x6 x7 y0 y1 y2 y3 q1 q2
    by_cases hnn : n = g.labs.length
    · have hni : ((n : Int) == (g.labs.length : Int)) = true := by rw [hnn]; simp
      have HRET := Lib.hid (show (((andH g h).side n).tell s : Int) = (x : Int) * (y : Int) by
        rw [HEQ.out, if_neg (by omega)]; exact Int.natCast_mul x y)
      clear hnn
      go_wp2
      go_ret
      exact ⟨ret_int HRET.out.symm, HB4.out⟩
    · have hni : ((n : Int) == (g.labs.length : Int)) = false := by simp; omega
      have HRET := Lib.hid (show (((andH g h).side n).tell s : Int) = (x : Int) * (K : Int) + (y : Int) by
        rw [HEQ.out, if_pos (by omega), hKt]; rw [Int.natCast_add, Int.natCast_mul])
      clear hnn
      go_wp2
      go_ret
      exact ⟨ret_int HRET.out.symm, HB4.out⟩
set_option maxHeartbeats 4000000 in
set_option maxRecDepth 100000 in
theorem tg_next {m1 m2 n s t : Nat} (H : HdV w (fun b => b < w.heap.size) g A c B c1 C c2) (H' : HdV w (fun b => b < w.heap.size) h A' d B' d1 C' d2) (hO : HdOk g m1) (hO' : HdOk h m2) (hm1 : m1 ≤ 400) (hm2 : m2 ≤ 400) (hL : g.labs.length = h.labs.length) (_hn : n ≤ g.labs.length) (hs : s < (g.side n).out.length * (h.side n).out.length) (ht : t < g.K.toNat * h.K.toNat) :
    Calls Tryz.prog 294 #[tgVal g h A c B c1 C c2 A' d B' d1 C' d2, .int .i64 (n : Int), .int .i64 (s : Int), .int .i64 (t : Int)] w fun e w' => e = .returned (.int .i64 (((andH g h).side n).nxt s t : Int)) ∧ Below w.heap.size w w' := by
  have hB0 := (Below.refl _ w).alloc (Nat.le_refl _) (.cells #[.int .i64 g.K, .slice A g.labs.length c, .slice B g.root.nx.length c1, .slice C g.root.out.length c2, .int .i64 h.K, .slice A' h.labs.length d, .slice B' h.root.nx.length d1, .slice C' h.root.out.length d2] 150)
  have hx0 := heap_alloc_new w (.cells #[.int .i64 g.K, .slice A g.labs.length c, .slice B g.root.nx.length c1, .slice C g.root.out.length c2, .int .i64 h.K, .slice A' h.labs.length d, .slice B' h.root.nx.length d1, .slice C' h.root.out.length d2] 150)
  have HLL := Lib.hid hL
  clear hL
  go_enter Tryz.func294, Tryz.ntmps294
  go_upto_region 1 with fail
  generalize w.alloc (.cells #[.int .i64 g.K, .slice A g.labs.length c, .slice B g.root.nx.length c1, .slice C g.root.out.length c2, .int .i64 h.K, .slice A' h.labs.length d, .slice B' h.root.nx.length d1, .slice C' h.root.out.length d2] 150) = W1 at *
  have x0 := Lib.cell_of_heap hx0 0
  have x1 := Lib.cell_of_heap hx0 1
  have x2 := Lib.cell_of_heap hx0 2
  have x3 := Lib.cell_of_heap hx0 3
  have x4 := Lib.cell_of_heap hx0 4
  have x5 := Lib.cell_of_heap hx0 5
  have x6 := Lib.cell_of_heap hx0 6
  have x7 := Lib.cell_of_heap hx0 7
  simp only [List.getElem?_toArray, List.getElem?_cons_zero, List.getElem?_cons_succ] at x0 x1 x2 x3 x4 x5 x6 x7
  have hwl := (Array.getElem?_eq_some_iff.1 hx0).1
  have r0 := fun w' (hw' : Below W1.heap.size W1 w') => (hw'.cell (p := ⟨w.heap.size, 0, none⟩) hwl).trans x0
  have r1 := fun w' (hw' : Below W1.heap.size W1 w') => (hw'.cell (p := ⟨w.heap.size, 1, none⟩) hwl).trans x1
  have r2 := fun w' (hw' : Below W1.heap.size W1 w') => (hw'.cell (p := ⟨w.heap.size, 2, none⟩) hwl).trans x2
  have r3 := fun w' (hw' : Below W1.heap.size W1 w') => (hw'.cell (p := ⟨w.heap.size, 3, none⟩) hwl).trans x3
  have r4 := fun w' (hw' : Below W1.heap.size W1 w') => (hw'.cell (p := ⟨w.heap.size, 4, none⟩) hwl).trans x4
  have r5 := fun w' (hw' : Below W1.heap.size W1 w') => (hw'.cell (p := ⟨w.heap.size, 5, none⟩) hwl).trans x5
  have r6 := fun w' (hw' : Below W1.heap.size W1 w') => (hw'.cell (p := ⟨w.heap.size, 6, none⟩) hwl).trans x6
  have r7 := fun w' (hw' : Below W1.heap.size W1 w') => (hw'.cell (p := ⟨w.heap.size, 7, none⟩) hwl).trans x7
  have HB := Lib.hid hB0
  have HX0 := Lib.hid hx0
  have HV := Lib.hid (H.on hB0)
  have HV' := Lib.hid (H'.on hB0)
  have HSa : Hid (∀ w', Below W1.heap.size W1 w' → Calls Tryz.prog 296 #[hdVal g A c B c1 C c2, .int .i64 (n : Int)] w' fun e w'' => ∃ B c1 C c2, e = .returned (sdVal (g.side n) B c1 C c2) ∧ SdV W1 (fun b => b < W1.heap.size) (g.side n) B c1 C c2 ∧ Below w'.heap.size w' w'') :=
    Lib.hid fun w' hw' => (side_anyS (S := fun b => b < W1.heap.size) (fun b hb => Nat.lt_of_lt_of_le hb hw'.size) (HV.out.keep fun p hp => hw'.cell hp) n).mono fun e w'' ⟨B, c1, C, c2, e1, e2, e3⟩ => ⟨B, c1, C, c2, e1, e2.keep fun p hp => (hw'.cell hp).symm, e3⟩
  have HSb : Hid (∀ w', Below W1.heap.size W1 w' → Calls Tryz.prog 296 #[hdVal h A' d B' d1 C' d2, .int .i64 (n : Int)] w' fun e w'' => ∃ B c1 C c2, e = .returned (sdVal (h.side n) B c1 C c2) ∧ SdV W1 (fun b => b < W1.heap.size) (h.side n) B c1 C c2 ∧ Below w'.heap.size w' w'') :=
    Lib.hid fun w' hw' => (side_anyS (S := fun b => b < W1.heap.size) (fun b hb => Nat.lt_of_lt_of_le hb hw'.size) (HV'.out.keep fun p hp => hw'.cell hp) n).mono fun e w'' ⟨B, c1, C, c2, e1, e2, e3⟩ => ⟨B, c1, C, c2, e1, e2.keep fun p hp => (hw'.cell hp).symm, e3⟩
  obtain ⟨IsH, hI1, hI2, HSS⟩ : ∃ R : Value → Sd → Prop, R (hdVal g A c B c1 C c2) (g.side n) ∧ R (hdVal h A' d B' d1 C' d2) (h.side n) ∧ Hid (∀ w', Below W1.heap.size W1 w' → ∀ v sd, R v sd → Calls Tryz.prog 296 #[v, .int .i64 (n : Int)] w' fun e w'' => ∃ B c1 C c2, e = .returned (sdVal sd B c1 C c2) ∧ SdV W1 (fun b => b < W1.heap.size) sd B c1 C c2 ∧ Below w'.heap.size w' w'') :=
    ⟨fun v sd => ∀ w', Below W1.heap.size W1 w' → Calls Tryz.prog 296 #[v, .int .i64 (n : Int)] w' fun e w'' => ∃ B c1 C c2, e = .returned (sdVal sd B c1 C c2) ∧ SdV W1 (fun b => b < W1.heap.size) sd B c1 C c2 ∧ Below w'.heap.size w' w'', HSa.out, HSb.out, Lib.hid fun w' hw' _ _ h => h w' hw'⟩
  have hb0 : Below W1.heap.size W1 W1 := Below.refl _ _
  clear hB0 hx0 H H' x0 x1 x2 x3 x4 x5 x6 x7 HSa HSb
  have heq : ((andH g h).side n).nxt s t = (g.side n).nxt (s / (h.side n).out.length) (t / h.K.toNat) * (h.side n).out.length + (h.side n).nxt (s % (h.side n).out.length) (t % h.K.toNat) := by
    rw [and_side HLL.out, bothS_nxt hs ht, nxP]
  have HEQ := Lib.hid heq
  clear heq
  have hna := Nat.le_trans (hO.sideOk n).2 hm1
  have hnb := Nat.le_trans (hO'.sideOk n).2 hm2
  have HSD := Lib.hid (And.intro (hO.sideOk n).1 (hO'.sideOk n).1)
  generalize g.side n = sa at *
  generalize h.side n = sb at *
  go_cut [9, 10] (fun s7 s8 wx => ∃ na nb, s7 = .pointer (some ⟨na, 0, none⟩) ∧ s8 = .pointer (some ⟨nb, 0, none⟩) ∧ TwoCut W1 wx sa sb na nb)
  case first =>
    go_region_held3 (fun w' => Below W1.heap.size W1 w')
      (repeat (first | assumption | with_reducible refine Below.drew ?_ | with_reducible refine bt (a := W1) ?_ br | with_reducible refine bal ?_ _ | with_reducible refine bset ?_ (by first | exact hsz | (simp only []; omega)) _))
      (first
        | (go_at_call 296; refine (HSS.out _ (by assumption) _ _ (by assumption)).mono ?_; rintro e WA ⟨B1, c11, C1, c12, rfl, h1, br⟩; have hbw : Below W1.heap.size W1 WA := bt (by assumption) br; have hsz : W1.heap.size ≤ WA.heap.size := hbw.size; (try (have hn1 := NewB.one br; obtain ⟨g10, g11, g12, g13, g14, g15, g16, g17, g18, g19⟩ := hn1.facts)); (try (have hn2 := NewB.two br; obtain ⟨g20, g21, g22, g23, g24, g25, g26, g27, g28, g29⟩ := hn2.facts)); (try (have hn5 := NewB.snd br; obtain ⟨g50, g51, g52, g53, g54, g55, g56, g57, g58, g59⟩ := hn5.facts)); (try (have hn6 := NewB.one0 br; obtain ⟨g60, g61, g62, g63, g64, g65, g66, g67, g68, g69⟩ := hn6.facts)); (try (have hn7 := NewB.two0 br; obtain ⟨g70, g71, g72, g73, g74, g75, g76, g77, g78, g79⟩ := hn7.facts)); (try (have hn8 := NewB.snd0 br; obtain ⟨g80, g81, g82, g83, g84, g85, g86, g87, g88, g89⟩ := hn8.facts)); (try (have hn3 : NewB WA W1.heap.size := (by with_reducible first | exact NewB.on (by assumption) br | exact NewB.on1 (by assumption) br); obtain ⟨g30, g31, g32, g33, g34, g35, g36, g37, g38, g39⟩ := hn3.facts)); (try (have hn4 : NewB WA (W1.heap.size + 1) := (by with_reducible first | exact NewB.on (by assumption) br | exact NewB.on1 (by assumption) br); obtain ⟨g40, g41, g42, g43, g44, g45, g46, g47, g48, g49⟩ := hn4.facts))))
    all_goals
      go_wp2_with fail
      go_meet
      refine ⟨_, _, rfl, rfl, TwoCut.mk (by assumption) (by assumption) ?_ ?_ ?_ ?_ ?_⟩
      · go_simp
      · go_simp
      · go_simp
      · go_simp
      · (repeat (first | assumption | with_reducible refine Below.drew ?_ | with_reducible refine bt (a := W1) ?_ br | with_reducible refine bal ?_ _ | with_reducible refine bset ?_ (by first | exact hsz | (simp only []; omega)) _))
  case rest =>
    obtain ⟨na, nb, rfl, rfl, B1, c11, C1, c12, B2, c21, C2, c22, ⟨y0, y1, y2, y3⟩, h1, h2, hb⟩ := hcut
    rename World => W2
    have HB2 := Lib.hid hb
    have x0 := r0 W2 hb
    have x1 := r1 W2 hb
    have x2 := r2 W2 hb
    have x3 := r3 W2 hb
    have x4 := r4 W2 hb
    have x5 := r5 W2 hb
    have x6 := r6 W2 hb
    have x7 := r7 W2 hb
    obtain ⟨K, hK⟩ : ∃ K : Nat, h.K = (K : Int) := ⟨h.K.toNat, (Int.toNat_of_nonneg (by have := hO'.K1; omega)).symm⟩
    have hKt : h.K.toNat = K := by rw [hK]; exact Int.toNat_natCast K
    have hK4 : K ≤ 400 := by have := hO'.fewK; omega
    have hG4 : g.K.toNat ≤ 400 := by have := hO.fewK; omega
    rw [hK] at x4
    obtain ⟨hs1, hs2⟩ := div_lt' hs
    obtain ⟨ht1, ht2⟩ := div_lt' ht
    obtain ⟨ra, u1, u2, u3, u4⟩ := HSD.out.1.nxt hs1 ht1
    obtain ⟨rb, v1, v2, v3, v4⟩ := HSD.out.2.nxt hs2 ht2
    have hla := HSD.out.1.len
    have hlb := HSD.out.2.len
    obtain ⟨a1, Ra, rca, rfl, ha1, q1, hrca, hrowa⟩ := (h1.on hb).row_at u1
    obtain ⟨a3, rfl, ha3, q3⟩ := ints_at' hrowa u3
    obtain ⟨a2, Rb, rcb, rfl, ha2, q2, hrcb, hrowb⟩ := (h2.on hb).row_at v1
    obtain ⟨a4, rfl, ha4, q4⟩ := ints_at' hrowb v3
    generalize h.K.toNat = K9 at *
    obtain rfl : K = K9 := hKt.symm
    rw [hla] at y0
    rw [hlb] at y2
    rw [u2] at q1
    rw [v2] at q2
    have hm0 : 0 < sb.out.length := Nat.lt_of_le_of_lt (Nat.zero_le _) hs2
    have hK0 : 0 < K := Nat.lt_of_le_of_lt (Nat.zero_le _) ht2
    have hsb : s ≤ 160000 := Nat.le_trans (Nat.le_of_lt hs) (Nat.mul_le_mul hna hnb)
    have htb : t ≤ 160000 := Nat.le_trans (Nat.le_of_lt ht) (Nat.mul_le_mul hG4 hK4)
    have hdv : (s : Int) / (sb.out.length : Int) = ((s / sb.out.length : Nat) : Int) := (Int.natCast_ediv _ _).symm
    have hmd : (s : Int) % (sb.out.length : Int) = ((s % sb.out.length : Nat) : Int) := (Int.natCast_emod _ _).symm
    have hdv2 : (t : Int) / (K : Int) = ((t / K : Nat) : Int) := (Int.natCast_ediv _ _).symm
    have hmd2 : (t : Int) % (K : Int) = ((t % K : Nat) : Int) := (Int.natCast_emod _ _).symm
    generalize s / sb.out.length = sp at *
    generalize s % sb.out.length = sr at *
    generalize t / K = tp at *
    generalize t % K = tr at *
    generalize sa.nxt sp tp = x at *
    generalize sb.nxt sr tr = y at *
    have hs1I : (sp : Int) < (sa.out.length : Int) := Int.ofNat_lt.2 hs1
    have hs2I : (sr : Int) < (sb.out.length : Int) := Int.ofNat_lt.2 hs2
    have ht1I : (tp : Int) < (g.K.toNat : Int) := Int.ofNat_lt.2 ht1
    have ht2I : (tr : Int) < (K : Int) := Int.ofNat_lt.2 ht2
    have hs10 : (0 : Int) ≤ (sp : Int) := Int.natCast_nonneg _
    have hs20 : (0 : Int) ≤ (sr : Int) := Int.natCast_nonneg _
    have ht10 : (0 : Int) ≤ (tp : Int) := Int.natCast_nonneg _
    have ht20 : (0 : Int) ≤ (tr : Int) := Int.natCast_nonneg _
    have hxy : x * sb.out.length ≤ 160000 := Nat.le_trans (Nat.mul_le_mul (Nat.le_of_lt u4) hnb) (Nat.mul_le_mul_right _ hna)
    have hxyI : (x : Int) * (sb.out.length : Int) ≤ 160000 := by have := Int.natCast_mul x sb.out.length; omega
    have hxy0 : (0 : Int) ≤ (x : Int) * (sb.out.length : Int) := by have := Int.natCast_mul x sb.out.length; omega
    have gw1 : IntKind.i64.wrap ((x : Int) * (sb.out.length : Int)) = (x : Int) * (sb.out.length : Int) := IntWalk.i64_in _ (by omega)
    have gw3 : IntKind.i64.wrap ((x : Int) * (sb.out.length : Int) + (y : Int)) = (x : Int) * (sb.out.length : Int) + (y : Int) := IntWalk.i64_in _ (by omega)
    have HRET := Lib.hid (show (((andH g h).side n).nxt s t : Int) = (x : Int) * (sb.out.length : Int) + (y : Int) by
      rw [HEQ.out, Int.natCast_add, Int.natCast_mul])
    clear hs ht r0 r1 r2 r3 r4 r5 r6 r7 HSS hI1 hI2 hb h1 h2 hrowa hrowb u1 u3 v1 v3 hla hlb hK x0 x1 x2 x3 x5 x6 x7
    go_upto_region 3 with fail
    go_quiet (fail)
    have HB3 := Lib.hid (show Below w.heap.size w (W2.drewN nq) from HB.out.trans (Below.mono (HB2.out.trans ⟨rfl, rfl, rfl, Nat.le_refl _, fun _ _ => rfl⟩) HB.out.size))
    go_wp2
    go_ret
    exact ⟨ret_int HRET.out.symm, HB3.out⟩
theorem mach_tog {m1 m2 : Nat} (H : HdV w (fun b => b < w.heap.size) g A c B c1 C c2) (H' : HdV w (fun b => b < w.heap.size) h A' d B' d1 C' d2) (hO : HdOk g m1) (hO' : HdOk h m2) (hm1 : m1 ≤ 400) (hm2 : m2 ≤ 400) (hL : g.labs.length = h.labs.length) :
    MachAt w (.iface 150 (tgVal g h A c B c1 C c2 A' d B' d1 C' d2)) (andH g h).mc := by
  have hLm : (andH g h).mc.L = g.labs.length := and_labs
  have hsz : ∀ n, (andH g h).mc.sz n = (g.side n).out.length * (h.side n).out.length := fun n => by
    show ((andH g h).side n).out.length = _
    rw [and_side hL, bothS_out]
  have hKm : (andH g h).mc.K = g.K.toNat * h.K.toNat := and_K
  refine ⟨_, _, _, _, _, rfl, fun k w => mth_tl k _ w, fun k w => mth_tn k _ w, fun k w => mth_to k _ w, cf_tl, cf_tn, cf_to, fun w _ => ?_, fun w n s t hb hn hs ht => ?_, fun w n s hb hn hs => ?_⟩
  · rw [hLm]; exact tg_labels
  · rw [hsz] at hs
    rw [hKm] at ht
    exact tg_next (H.on hb) (H'.on hb) hO hO' hm1 hm2 hL (by rw [← hLm]; exact hn) hs ht
  · rw [hsz] at hs
    exact tg_out (H.on hb) (H'.on hb) hO hO' hm1 hm2 hL (by rw [← hLm]; exact hn) hs
end
end Go.Proofs.YtnkelhmjkmeilaaGreatDoor.H
end
