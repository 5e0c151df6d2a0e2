/- Automata of trees in memory; side; the machine of one automaton. -/
import Derived.Test.YtbipdnnalhdoaaaCl
import Derived.Test.YtbipdnnalhdoaaaHh
import Derived.Laws.ResultCell
namespace Go.Proofs.Ytbipdnnalhdoaaa
open Go.RowKit Go.Maps Go.WideMaps
attribute [local go_sem ↓] Go.wp_at_zero Go.wp_at_succ

/-- a side: what follows, what is told; an automaton -/
structure Sd where
  nx : List (List Int)
  out : List Int
structure Hd where
  K : Int
  labs : List Sd
  root : Sd
def rowC (l : List Int) : Cl := .s 1 l.length (l.map .i)
def sdC (s : Sd) : List Cl := [.s 1 s.nx.length (s.nx.map rowC), .s 1 s.out.length (s.out.map .i)]
theorem sdC_len (s : Sd) : (sdC s).length = 2 := rfl
/-- a side in memory -/
structure SdV (w : World) (S : Nat → Prop) (s : Sd) (B : Option Addr) (c1 : Nat) (C : Option Addr) (c2 : Nat) : Prop where
  nx : SlP w S 1 B s.nx.length (s.nx.map rowC)
  le1 : Cap s.nx.length c1
  out : SlP w S 1 C s.out.length (s.out.map .i)
  le2 : Cap s.out.length c2
structure HdV (w : World) (S : Nat → Prop) (h : Hd) (A : Option Addr) (c : Nat) (B : Option Addr) (c1 : Nat) (C : Option Addr) (c2 : Nat) : Prop where
  labs : SlP w S 2 A h.labs.length (h.labs.flatMap sdC)
  le : Cap h.labs.length c
  root : SdV w S h.root B c1 C c2
abbrev sdVal (s : Sd) (B : Option Addr) (c1 : Nat) (C : Option Addr) (c2 : Nat) : Value := .agg #[.slice B s.nx.length c1, .slice C s.out.length c2]
abbrev hdVal (h : Hd) (A : Option Addr) (c : Nat) (B : Option Addr) (c1 : Nat) (C : Option Addr) (c2 : Nat) : Value := .agg #[.int .i64 h.K, .slice A h.labs.length c, .slice B h.root.nx.length c1, .slice C h.root.out.length c2]
section
variable {w w' : World} {S S' : Nat → Prop} {s : Sd} {h : Hd} {A B C : Option Addr} {c c1 c2 : Nat}
theorem SdV.keep (H : SdV w S s B c1 C c2) (hk : ∀ p : Addr, S p.block → w'.cell? p = w.cell? p) : SdV w' S s B c1 C c2 := ⟨H.nx.keep hk, H.le1, H.out.keep hk, H.le2⟩
theorem SdV.more (H : SdV w S s B c1 C c2) (hS : ∀ b, S b → S' b) : SdV w S' s B c1 C c2 := ⟨H.nx.more hS, H.le1, H.out.more hS, H.le2⟩
theorem HdV.keep (H : HdV w S h A c B c1 C c2) (hk : ∀ p : Addr, S p.block → w'.cell? p = w.cell? p) : HdV w' S h A c B c1 C c2 := ⟨H.labs.keep hk, H.le, H.root.keep hk⟩
theorem HdV.more (H : HdV w S h A c B c1 C c2) (hS : ∀ b, S b → S' b) : HdV w S' h A c B c1 C c2 := ⟨H.labs.more hS, H.le, H.root.more hS⟩
theorem HdV.on (H : HdV w (fun b => b < w.heap.size) h A c B c1 C c2) (hb : Below w.heap.size w w') : HdV w' (fun b => b < w'.heap.size) h A c B c1 C c2 :=
  (H.keep fun _ hp => hb.cell hp).more fun _ hb' => Nat.lt_of_lt_of_le hb' hb.size
theorem SdV.on (H : SdV w (fun b => b < w.heap.size) s B c1 C c2) (hb : Below w.heap.size w w') : SdV w' (fun b => b < w'.heap.size) s B c1 C c2 :=
  (H.keep fun _ hp => hb.cell hp).more fun _ hb' => Nat.lt_of_lt_of_le hb' hb.size
/-- the side k of the labels: its two cells -/
theorem labs_at {l : List Sd} {n : Nat} (H : SlP w S 2 A n (l.flatMap sdC)) {k : Nat} {s : Sd} (hk : l[k]? = some s) : ∃ a B c1 C c2, A = some a ∧ S a.block ∧ w.cell? (a.add (k * 2)) = some (.slice B s.nx.length c1) ∧ w.cell? ⟨(a.add (k * 2)).block, (a.add (k * 2)).off + 1, none⟩ = some (.slice C s.out.length c2) ∧ SdV w S s B c1 C c2 := by
  have h0 := flat_at sdC_len (r := 0) hk (by omega)
  have h1 := flat_at sdC_len (r := 1) hk (by omega)
  obtain ⟨a, B, c1, e1, hS, h2, h3, h4⟩ := H.atSl (k := k * 2) h0
  obtain ⟨a', C, c2, e2, _, h5, h6, h7⟩ := H.atSl (k := k * 2 + 1) h1
  rw [e1] at e2
  injection e2 with e2
  subst e2
  exact ⟨a, B, c1, C, c2, e1, hS, h2, by rw [← add_pos _ 1 (by omega), add_add]; exact h5, h4, h3, h7, h6⟩
/-- a row of a side's -/
theorem SdV.row_at (H : SdV w S s B c1 C c2) {k : Nat} {r : List Int} (hk : s.nx[k]? = some r) : ∃ a R c, B = some a ∧ S a.block ∧ w.cell? (a.add k) = some (.slice R r.length c) ∧ Cap r.length c ∧ SlP w S 1 R r.length (r.map .i) := by
  obtain ⟨a, R, c, e, hS, h1, h2, h3⟩ := H.nx.atSl (k := k) (z' := 1) (n' := r.length) (cs' := r.map .i) (by rw [List.getElem?_map, hk]; rfl)
  exact ⟨a, R, c, e, hS, h1, h2, h3⟩
theorem ints_at' {l : List Int} {n : Nat} (H : SlP w S 1 A n (l.map .i)) {k : Nat} {i : Int} (hk : l[k]? = some i) : ∃ a, A = some a ∧ S a.block ∧ w.cell? (a.add k) = some (.int .i64 i) :=
  H.atInt (by rw [List.getElem?_map, hk]; rfl)
end

/-- a side may be: it reads K, and tells less than o -/
structure SdOk (s : Sd) (K o : Nat) : Prop where
  pos : 0 < s.out.length
  len : s.nx.length = s.out.length
  rows : ∀ r ∈ s.nx, r.length = K ∧ ∀ x ∈ r, 0 ≤ x ∧ x < s.out.length
  outs : ∀ x ∈ s.out, 0 ≤ x ∧ x < o
def Sd.nxt (s : Sd) (i v : Nat) : Nat := (((s.nx[i]?).getD [])[v]?.getD 0).toNat
def Sd.tell (s : Sd) (i : Nat) : Nat := (s.out[i]?.getD 0).toNat
theorem SdOk.nxt {s : Sd} {K o i v : Nat} (h : SdOk s K o) (hi : i < s.out.length) (hv : v < K) : ∃ r, s.nx[i]? = some r ∧ r.length = K ∧ r[v]? = some (s.nxt i v : Int) ∧ s.nxt i v < s.out.length := by
  have hi' : i < s.nx.length := by rw [h.len]; exact hi
  obtain ⟨h1, h2⟩ := h.rows s.nx[i] (List.getElem_mem _)
  have hv' : v < s.nx[i].length := by omega
  obtain ⟨h3, h4⟩ := h2 s.nx[i][v] (List.getElem_mem _)
  refine ⟨s.nx[i], List.getElem?_eq_getElem hi', h1, ?_, ?_⟩
  · rw [Sd.nxt, List.getElem?_eq_getElem hi', Option.getD_some, List.getElem?_eq_getElem hv', Option.getD_some, Int.toNat_of_nonneg h3]
  · rw [Sd.nxt, List.getElem?_eq_getElem hi', Option.getD_some, List.getElem?_eq_getElem hv', Option.getD_some]
    omega
theorem SdOk.tell {s : Sd} {K o i : Nat} (h : SdOk s K o) (hi : i < s.out.length) : s.out[i]? = some (s.tell i : Int) ∧ s.tell i < o := by
  obtain ⟨h3, h4⟩ := h.outs s.out[i] (List.getElem_mem _)
  refine ⟨?_, ?_⟩
  · rw [Sd.tell, List.getElem?_eq_getElem hi, Option.getD_some, Int.toNat_of_nonneg h3]
  · rw [Sd.tell, List.getElem?_eq_getElem hi, Option.getD_some]
    omega
/-- an automaton may be; it is small -/
structure HdOk (h : Hd) (m : Nat) : Prop where
  K1 : 1 ≤ h.K
  labs : ∀ s ∈ h.labs, SdOk s h.K.toNat h.K.toNat
  root : SdOk h.root h.K.toNat 2
  fewL : h.labs.length ≤ 100
  fewS : ∀ s ∈ h.labs, s.out.length ≤ m
  fewR : h.root.out.length ≤ m
  fewK : h.K ≤ m
def Hd.side (h : Hd) (n : Nat) : Sd := (h.labs[n]?).getD h.root
theorem Hd.side_lt {h : Hd} {n : Nat} (hn : n < h.labs.length) : h.labs[n]? = some (h.side n) := by rw [Hd.side, List.getElem?_eq_getElem hn]; rfl
theorem Hd.side_ge {h : Hd} {n : Nat} (hn : h.labs.length ≤ n) : h.side n = h.root := by rw [Hd.side, List.getElem?_eq_none hn]; rfl
def Hd.mc (h : Hd) : Mc := ⟨h.labs.length, h.K.toNat, fun n => (h.side n).out.length, fun n s t => (h.side n).nxt s t, fun n s => (h.side n).tell s⟩
theorem HdOk.sideOk {h : Hd} {m : Nat} (H : HdOk h m) (n : Nat) : SdOk (h.side n) h.K.toNat (if n < h.labs.length then h.K.toNat else 2) ∧ (h.side n).out.length ≤ m := by
  by_cases hn : n < h.labs.length
  · rw [if_pos hn]
    have := List.mem_of_getElem? (Hd.side_lt hn)
    exact ⟨H.labs _ this, H.fewS _ this⟩
  · rw [if_neg hn, Hd.side_ge (by omega)]
    exact ⟨H.root, H.fewR⟩
theorem HdOk.mcOk {h : Hd} {m : Nat} (H : HdOk h m) (hm : m ≤ 400) : h.mc.Ok := by
  refine ⟨fun n _ => (H.sideOk n).1.pos, fun n s t _ hs ht => ?_, fun n s hn hs => ?_, H.fewL, fun n _ => Nat.le_trans (H.sideOk n).2 hm, ?_⟩
  · obtain ⟨r, _, _, _, h4⟩ := (H.sideOk n).1.nxt hs ht
    exact h4
  · have := (H.sideOk n).1.tell hs
    rw [if_pos (show n < h.labs.length from hn)] at this
    exact this.2
  · have h1 := H.fewK
    show h.K.toNat ≤ 400
    omega
theorem HdOk.out2 {h : Hd} {m : Nat} (H : HdOk h m) : ∀ s, s < h.mc.sz h.mc.L → h.mc.out h.mc.L s ≤ 1000 := fun s hs => by
  have h1 := (H.sideOk h.labs.length).1.tell hs
  rw [if_neg (Nat.lt_irrefl _)] at h1
  have := h1.2
  show (h.side h.labs.length).tell s ≤ 1000
  omega

theorem results_cell1' {fn : Func} {p : Tmp} {ty : TypeId} (h : fn.results = #[.cell p ty]) (tmps : Array Value) (P : Program) (w : World) :
    (results fn tmps).run P w = ((asAddr (tmps.getD p undef)).run P w).andThen fun a w₁ => (loadVar ty a).run P w₁ := by
  simp only [results, h]
  simp [Sem.run_bind, Result.andThen]
/-- the result in a cell block -/
theorem ret_sd {f : Func} {p : Tmp} (h : f.results = #[.cell p 26]) {a : Act} {w : World} {g : Nat} {v0 v1 : Value} {R : Ending → World → Prop} (hp : a.tmps.getD p undef = .pointer (some ⟨g, 0, none⟩)) (hd : a.defers = [])
    (hg : w.heap[g]? = some (.cells #[v0, v1] 26 (0, 0))) (hR : R (.returned (.agg #[v0, v1])) w) : bodyPost Try.prog f R .ret a w := by
  have hc := fun j => Lib.cell_of_heap hg j
  have c0 := hc 0
  have c1 := hc 1
  simp only [List.getElem?_toArray, List.getElem?_cons_zero, List.getElem?_cons_succ] at c0 c1
  refine bodyPost_ret (v := .agg #[v0, v1]) ?_ hd hR
  rw [results_cell1' h, hp]
  go_simp
theorem two_stored {w : World} {g : Nat} {a b : Value} {T : TypeId} (h : w.heap[g]? = some (.cells #[a, b] T (0, 0))) (v0 v1 : Value) : ((w.setCell ⟨g, 0, none⟩ v0).setCell ⟨g, 1, none⟩ v1).heap[g]? = some (.cells #[v0, v1] T (0, 0)) := by
  have h0 := heap_setCell_same w g 0 _ _ v0 h
  have h1 := heap_setCell_same _ g 1 _ _ v1 h0
  simpa using h1

/-- what side tells -/
def SideRet (w : World) (s : Sd) (e : Ending) (w' : World) : Prop := ∃ B c1 C c2, e = .returned (sdVal s B c1 C c2) ∧ SdV w (fun b => b < w.heap.size) s B c1 C c2 ∧ Below w.heap.size w w'
set_option maxHeartbeats 1000000 in
set_option maxRecDepth 100000 in
theorem side_any {w : World} {h : Hd} {A B C : Option Addr} {c c1 c2 : Nat} (H : HdV w (fun b => b < w.heap.size) h A c B c1 C c2) (n : Nat) :
    Calls Try.prog 50 #[hdVal h A c B c1 C c2, .int .i64 (n : Int)] w (SideRet w (h.side n)) := by
  have hB0 := (Below.refl _ w).alloc (Nat.le_refl _) (.cells #[.int .i64 h.K, .slice A h.labs.length c, .slice B h.root.nx.length c1, .slice C h.root.out.length c2] 28)
  have hs0 : (w.alloc (.cells #[.int .i64 h.K, .slice A h.labs.length c, .slice B h.root.nx.length c1, .slice C h.root.out.length c2] 28)).heap.size = w.heap.size + 1 := World.size_alloc _ _
  have hx0 := heap_alloc_new w (.cells #[.int .i64 h.K, .slice A h.labs.length c, .slice B h.root.nx.length c1, .slice C h.root.out.length c2] 28)
  have hB1 := hB0.alloc (by omega) (.cells #[.slice none 0 0, .slice none 0 0] 26)
  have hx1 := heap_alloc_new (w.alloc (.cells #[.int .i64 h.K, .slice A h.labs.length c, .slice B h.root.nx.length c1, .slice C h.root.out.length c2] 28)) (.cells #[.slice none 0 0, .slice none 0 0] 26)
  have hx0' := (Below.heap_alloc (w.alloc (.cells #[.int .i64 h.K, .slice A h.labs.length c, .slice B h.root.nx.length c1, .slice C h.root.out.length c2] 28)) (.cells #[.slice none 0 0, .slice none 0 0] 26) w.heap.size (by omega)).trans hx0
  rw [hs0] at hx1
  have hlt0 := (Array.getElem?_eq_some_iff.1 hx0').1
  go_enter Try.func50, Try.ntmps50
  go_upto_region 1 with fail
  generalize (w.alloc (.cells #[.int .i64 h.K, .slice A h.labs.length c, .slice B h.root.nx.length c1, .slice C h.root.out.length c2] 28)).alloc (.cells #[.slice none 0 0, .slice none 0 0] 26) = W2 at *
  have x1 := Lib.cell_of_heap hx0' 1
  have x2 := Lib.cell_of_heap hx0' 2
  have x3 := Lib.cell_of_heap hx0' 3
  have y0 := Lib.cell_of_heap hx1 0
  have y1 := Lib.cell_of_heap hx1 1
  have f0 := Lib.frozen_of_heap hx1 0
  have f1 := Lib.frozen_of_heap hx1 1
  simp only [List.getElem?_toArray, List.getElem?_cons_zero, List.getElem?_cons_succ] at x1 x2 x3 y0 y1
  have HB := Lib.hid hB1
  have HX := Lib.hid hx1
  clear hB0 hs0 hx0 hx0' hx1
  by_cases hn : n < h.labs.length
  · obtain ⟨a, B', c1', C', c2', rfl, hab, k0, k1, hsd⟩ := labs_at H.labs (Hd.side_lt hn)
    have hnI : (n : Int) < (h.labs.length : Int) := by omega
    have hn0 : (0 : Int) ≤ (n : Int) := by omega
    replace k0 := (hB1.cell (p := a.add (n * 2)) (by rw [block_add]; exact hab)).trans k0
    replace k1 := (hB1.cell (p := ⟨(a.add (n * 2)).block, (a.add (n * 2)).off + 1, none⟩) (by show (a.add (n * 2)).block < _; rw [block_add]; exact hab)).trans k1
    have HS := Lib.hid hsd
    clear hsd hB1 H
    generalize h.side n = sd at *
    go_wp2
    exact ret_sd rfl rfl rfl (two_stored HX.out _ _) ⟨B', c1', C', c2', rfl, HS.out, (HB.out.setCell (p := ⟨w.heap.size + 1, 0, none⟩) (by simp only []; omega) _).setCell (p := ⟨w.heap.size + 1, 1, none⟩) (by simp only []; omega) _⟩
  · have hnI : ¬ (n : Int) < (h.labs.length : Int) := by omega
    have hsd := Hd.side_ge (h := h) (n := n) (by omega)
    have HS := Lib.hid (And.intro H.root hsd)
    clear hsd hB1 H
    go_wp2
    exact ret_sd rfl rfl rfl (two_stored HX.out _ _) ⟨B, c1, C, c2, by rw [HS.out.2], by rw [HS.out.2]; exact HS.out.1, (HB.out.setCell (p := ⟨w.heap.size + 1, 0, none⟩) (by simp only []; omega) _).setCell (p := ⟨w.heap.size + 1, 1, none⟩) (by simp only []; omega) _⟩
end Go.Proofs.Ytbipdnnalhdoaaa
