/- The machine of one automaton, in memory. -/
import Derived.Test.YtbipdnnalhdoaaaHq
namespace Go.Proofs.Ytbipdnnalhdoaaa
open Go.RowKit Go.Maps Go.WideMaps
attribute [local go_sem ↓] Go.wp_at_zero Go.wp_at_succ

theorem mth_al (k : Nat) (v : Value) (w : World) : (method (k + 1) 65 v "strainer/hedge.labels").run Try.prog w = .ok (75, v) w := by kernel_rfl
theorem mth_an (k : Nat) (v : Value) (w : World) : (method (k + 1) 65 v "strainer/hedge.next").run Try.prog w = .ok (76, v) w := by kernel_rfl
theorem mth_ao (k : Nat) (v : Value) (w : World) : (method (k + 1) 65 v "strainer/hedge.out").run Try.prog w = .ok (77, v) w := by kernel_rfl
theorem cf_al (args : Array Value) (w : World) : (callFunc 75 args).run Try.prog w = .ok (.enter 75 args) w := by kernel_rfl
theorem cf_an (args : Array Value) (w : World) : (callFunc 76 args).run Try.prog w = .ok (.enter 76 args) w := by kernel_rfl
theorem cf_ao (args : Array Value) (w : World) : (callFunc 77 args).run Try.prog w = .ok (.enter 77 args) w := by kernel_rfl
theorem fld_sd0 (a b : Value) (w : World) : (Instr.field 26 (.agg #[a, b]) 0).run Try.prog w = .ok a w := by kernel_rfl
theorem fld_sd1 (a b : Value) (w : World) : (Instr.field 26 (.agg #[a, b]) 1).run Try.prog w = .ok b w := by kernel_rfl

theorem al_labels {w : World} (h : Hd) (A B C : Option Addr) (c c1 c2 : Nat) :
    Calls Try.prog 75 #[hdVal h A c B c1 C c2] w fun e w' => e = .returned (.int .i64 (h.labs.length : Int)) ∧ Below w.heap.size w w' := by
  go_enter Try.func75, Try.ntmps75
  go_wp2
  go_ret
  exact ⟨rfl, (Below.refl _ w).alloc (Nat.le_refl _) _⟩
set_option maxHeartbeats 1000000 in
set_option maxRecDepth 100000 in
theorem al_out {w : World} {h : Hd} {A B C : Option Addr} {c c1 c2 m n s : Nat} (H : HdV w (fun b => b < w.heap.size) h A c B c1 C c2) (hO : HdOk h m) (hs : s < (h.side n).out.length) :
    Calls Try.prog 77 #[hdVal h A c B c1 C c2, .int .i64 (n : Int), .int .i64 (s : Int)] w fun e w' => e = .returned (.int .i64 ((h.side n).tell s : Int)) ∧ Below w.heap.size w w' := by
  have hB0 := (Below.refl _ w).alloc (Nat.le_refl _) (.cells #[.int .i64 h.K, .slice A h.labs.length c, .slice B h.root.nx.length c1, .slice C h.root.out.length c2] 65)
  have hx0 := heap_alloc_new w (.cells #[.int .i64 h.K, .slice A h.labs.length c, .slice B h.root.nx.length c1, .slice C h.root.out.length c2] 65)
  have H1 := H.on hB0
  have hk := (hO.sideOk n).1.tell hs
  have HSI := fun (W : World) (HW : HdV W (fun b => b < W.heap.size) h A c B c1 C c2) => side_any HW n
  generalize h.side n = sd at *
  replace HSI := Lib.hid HSI
  have fs := fld_sd1
  go_enter Try.func77, Try.ntmps77
  go_upto_region 1 with fail
  generalize w.alloc (.cells #[.int .i64 h.K, .slice A h.labs.length c, .slice B h.root.nx.length c1, .slice C h.root.out.length c2] 65) = W1 at *
  have x0 := Lib.cell_of_heap hx0 0
  have x1 := Lib.cell_of_heap hx0 1
  have x2 := Lib.cell_of_heap hx0 2
  have x3 := Lib.cell_of_heap hx0 3
  simp only [List.getElem?_toArray, List.getElem?_cons_zero, List.getElem?_cons_succ] at x0 x1 x2 x3
  have HB := Lib.hid hB0
  have HK := Lib.hid hk
  have H1' := Lib.hid H1
  clear hB0 hx0 hk H1 H
  go_wp2_with fail
  refine (HSI.out _ H1'.out).mono ?_
  rintro e W2 ⟨B', c1', C', c2', rfl, hsd, b2⟩
  obtain ⟨a, rfl, hab, k0⟩ := ints_at' hsd.out HK.out.1
  replace k0 := (b2.cell (p := a.add s) (by rw [block_add]; exact hab)).trans k0
  have HB2 := Lib.hid (HB.out.trans (b2.mono HB.out.size))
  clear b2 hsd
  have hsI : (s : Int) < (sd.out.length : Int) := by omega
  have hs0 : (0 : Int) ≤ (s : Int) := by omega
  go_wp2
  go_ret
  exact ⟨rfl, HB2.out⟩
set_option maxHeartbeats 1000000 in
set_option maxRecDepth 100000 in
theorem al_next {w : World} {h : Hd} {A B C : Option Addr} {c c1 c2 m n s t : Nat} (H : HdV w (fun b => b < w.heap.size) h A c B c1 C c2) (hO : HdOk h m) (hs : s < (h.side n).out.length) (ht : t < h.K.toNat) :
    Calls Try.prog 76 #[hdVal h A c B c1 C c2, .int .i64 (n : Int), .int .i64 (s : Int), .int .i64 (t : Int)] w fun e w' => e = .returned (.int .i64 ((h.side n).nxt s t : Int)) ∧ Below w.heap.size w w' := by
  have hB0 := (Below.refl _ w).alloc (Nat.le_refl _) (.cells #[.int .i64 h.K, .slice A h.labs.length c, .slice B h.root.nx.length c1, .slice C h.root.out.length c2] 65)
  have hx0 := heap_alloc_new w (.cells #[.int .i64 h.K, .slice A h.labs.length c, .slice B h.root.nx.length c1, .slice C h.root.out.length c2] 65)
  have H1 := H.on hB0
  obtain ⟨r, k1, k2, k3, k4⟩ := (hO.sideOk n).1.nxt hs ht
  have hsl : s < (h.side n).nx.length := by rw [(hO.sideOk n).1.len]; exact hs
  have HSI := fun (W : World) (HW : HdV W (fun b => b < W.heap.size) h A c B c1 C c2) => side_any HW n
  generalize h.side n = sd at *
  replace HSI := Lib.hid HSI
  have fs := fld_sd0
  go_enter Try.func76, Try.ntmps76
  go_upto_region 1 with fail
  generalize w.alloc (.cells #[.int .i64 h.K, .slice A h.labs.length c, .slice B h.root.nx.length c1, .slice C h.root.out.length c2] 65) = W1 at *
  have x0 := Lib.cell_of_heap hx0 0
  have x1 := Lib.cell_of_heap hx0 1
  have x2 := Lib.cell_of_heap hx0 2
  have x3 := Lib.cell_of_heap hx0 3
  simp only [List.getElem?_toArray, List.getElem?_cons_zero, List.getElem?_cons_succ] at x0 x1 x2 x3
  have HB := Lib.hid hB0
  have HK := Lib.hid (And.intro k1 k3)
  have H1' := Lib.hid H1
  have htr : t < r.length := by omega
  clear hB0 hx0 k1 k2 k3 k4 H1 H
  go_wp2_with fail
  refine (HSI.out _ H1'.out).mono ?_
  rintro e W2 ⟨B', c1', C', c2', rfl, hsd, b2⟩
  obtain ⟨a, R, rc, rfl, hab, k0, hrc, hrow⟩ := hsd.row_at HK.out.1
  obtain ⟨a2, rfl, hab2, k5⟩ := ints_at' hrow HK.out.2
  replace k0 := (b2.cell (p := a.add s) (by rw [block_add]; exact hab)).trans k0
  replace k5 := (b2.cell (p := a2.add t) (by rw [block_add]; exact hab2)).trans k5
  have HB2 := Lib.hid (HB.out.trans (b2.mono HB.out.size))
  clear b2 hsd hrow
  have hsI : (s : Int) < (sd.nx.length : Int) := by omega
  have hs0 : (0 : Int) ≤ (s : Int) := by omega
  have htI : (t : Int) < (r.length : Int) := by omega
  have ht0 : (0 : Int) ≤ (t : Int) := by omega
  go_wp2
  go_ret
  exact ⟨rfl, HB2.out⟩
/-- ONE AUTOMATON IS THE MACHINE -/
theorem mach_alone {w0 : World} {h : Hd} {A B C : Option Addr} {c c1 c2 m : Nat} (H : HdV w0 (fun b => b < w0.heap.size) h A c B c1 C c2) (hO : HdOk h m) : MachAt w0 (.iface 65 (hdVal h A c B c1 C c2)) h.mc := by
  refine ⟨_, _, _, _, _, rfl, fun k w => mth_al k _ w, fun k w => mth_an k _ w, fun k w => mth_ao k _ w, cf_al, cf_an, cf_ao, fun w _ => al_labels h A B C c c1 c2, fun w n s t hb _ hs ht => ?_, fun w n s hb _ hs => ?_⟩
  · exact al_next (H.on hb) hO hs ht
  · exact al_out (H.on hb) hO hs
end Go.Proofs.Ytbipdnnalhdoaaa
