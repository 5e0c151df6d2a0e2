/- The document's Good: an automaton that may be. -/
import Derived.Test.YtbipdnnalhdoaaaHA
import Derived.Test.YtbipdnnalhdoaaaHp
namespace Go.Proofs.Ytbipdnnalhdoaaa
open Go.RowKit Go.Maps Go.WideMaps
attribute [local go_sem ↓] Go.wp_at_zero Go.wp_at_succ

theorem infoSd : (Try.prog.info? 26).map (fun i => (i.zero, i.size, i.bytes)) = some (some (.agg #[.slice none 0 0, .slice none 0 0]), 2, 48) := by kernel_rfl
theorem rowSd : Row Try.prog 22 26 2 48 := by
  obtain ⟨i, hi, hz, h1, h2⟩ := info_parts infoSd
  exact ⟨Try.underlying22, ⟨i, _, hi, hz, h1, h2, rfl⟩, by decide⟩
/-- the result in a cell block -/
theorem ret_hd {f : Func} {p : Tmp} (h : f.results = #[.cell p 28]) {a : Act} {w : World} {g : Nat} {v0 v1 v2 v3 : Value} {R : Ending → World → Prop} (hp : a.tmps.getD p undef = .pointer (some ⟨g, 0, none⟩)) (hd : a.defers = [])
    (hg : w.heap[g]? = some (.cells #[v0, v1, v2, v3] 28 (0, 0))) (hR : R (.returned (.agg #[v0, v1, v2, v3])) w) : bodyPost Try.prog f R .ret a w := by
  have hc := fun j => Lib.cell_of_heap hg j
  have c0 := hc 0
  have c1 := hc 1
  have c2 := hc 2
  have c3 := hc 3
  simp only [List.getElem?_toArray, List.getElem?_cons_zero, List.getElem?_cons_succ] at c0 c1 c2 c3
  refine bodyPost_ret (v := .agg #[v0, v1, v2, v3]) ?_ hd hR
  rw [results_cell1' h, hp]
  go_simp
theorem four_stored {w : World} {g : Nat} {a b c d : Value} {T : TypeId} (h : w.heap[g]? = some (.cells #[a, b, c, d] T (0, 0))) (v0 v1 v2 v3 : Value) :
    ((((w.setCell ⟨g, 0, none⟩ v0).setCell ⟨g, 1, none⟩ v1).setCell ⟨g, 2, none⟩ v2).setCell ⟨g, 3, none⟩ v3).heap[g]? = some (.cells #[v0, v1, v2, v3] T (0, 0)) := by
  have h0 := heap_setCell_same w g 0 _ _ v0 h
  have h1 := heap_setCell_same _ g 1 _ _ v1 h0
  have h2 := heap_setCell_same _ g 2 _ _ v2 h1
  have h3 := heap_setCell_same _ g 3 _ _ v3 h2
  simpa using h3
theorem hd_stored {w : World} {g r : Nat} {a b c d : Value} {T : TypeId} (hne : r ≠ g) (h : w.heap[r]? = some (.cells #[a, b, c, d] T (0, 0))) (u2 u3 v0 v1 v2 v3 : Value) :
    ((((((w.setCell ⟨g, 2, none⟩ u2).setCell ⟨g, 3, none⟩ u3).setCell ⟨r, 0, none⟩ v0).setCell ⟨r, 1, none⟩ v1).setCell ⟨r, 2, none⟩ v2).setCell ⟨r, 3, none⟩ v3).heap[r]? = some (.cells #[v0, v1, v2, v3] T (0, 0)) ∧
    (∀ q, q ≠ g → q ≠ r → ((((((w.setCell ⟨g, 2, none⟩ u2).setCell ⟨g, 3, none⟩ u3).setCell ⟨r, 0, none⟩ v0).setCell ⟨r, 1, none⟩ v1).setCell ⟨r, 2, none⟩ v2).setCell ⟨r, 3, none⟩ v3).heap[q]? = w.heap[q]?) ∧
    ((((((w.setCell ⟨g, 2, none⟩ u2).setCell ⟨g, 3, none⟩ u3).setCell ⟨r, 0, none⟩ v0).setCell ⟨r, 1, none⟩ v1).setCell ⟨r, 2, none⟩ v2).setCell ⟨r, 3, none⟩ v3).heap.size = w.heap.size := by
  refine ⟨four_stored (by rw [heap_set_other (p := ⟨g, 3, none⟩) hne, heap_set_other (p := ⟨g, 2, none⟩) hne]; exact h) _ _ _ _, fun q h1 h2 => ?_, by simp only [size_set]⟩
  rw [heap_set_other (p := ⟨r, 3, none⟩) h2, heap_set_other (p := ⟨r, 2, none⟩) h2, heap_set_other (p := ⟨r, 1, none⟩) h2, heap_set_other (p := ⟨r, 0, none⟩) h2, heap_set_other (p := ⟨g, 3, none⟩) h1, heap_set_other (p := ⟨g, 2, none⟩) h1]
theorem hd_below {w0 w : World} {B g r : Nat} (h : Below B w0 w) (hg : B ≤ g) (hr : B ≤ r) (u2 u3 v0 v1 v2 v3 : Value) :
    Below B w0 ((((((w.setCell ⟨g, 2, none⟩ u2).setCell ⟨g, 3, none⟩ u3).setCell ⟨r, 0, none⟩ v0).setCell ⟨r, 1, none⟩ v1).setCell ⟨r, 2, none⟩ v2).setCell ⟨r, 3, none⟩ v3) :=
  (((((h.setCell (p := ⟨g, 2, none⟩) hg u2).setCell (p := ⟨g, 3, none⟩) hg u3).setCell (p := ⟨r, 0, none⟩) hr v0).setCell (p := ⟨r, 1, none⟩) hr v1).setCell (p := ⟨r, 2, none⟩) hr v2).setCell (p := ⟨r, 3, none⟩) hr v3
/-- numbers in an argument's row of rows -/
structure RowsIn (w : World) (A : Option Addr) (ls : List (List Int)) : Prop where
  sl : SlP w (fun b => b < w.heap.size) 1 A ls.length (ls.map rowC)
  len : ls.length ≤ 9223372036854775807
  bd : ∀ l ∈ ls, ∀ x ∈ l, IntB x
theorem RowsIn.on {w w' : World} {A : Option Addr} {ls : List (List Int)} (h : RowsIn w A ls) (hb : Below w.heap.size w w') : RowsIn w' A ls := ⟨Sl.on h.sl hb, h.len, h.bd⟩
theorem rows_at {w : World} {S : Nat → Prop} {A : Option Addr} {n : Nat} {ls : List (List Int)} (H : SlP w S 1 A n (ls.map rowC)) {k : Nat} {r : List Int} (hk : ls[k]? = some r) :
    ∃ a R c, A = some a ∧ S a.block ∧ w.cell? (a.add k) = some (.slice R r.length c) ∧ Cap r.length c ∧ SlP w S 1 R r.length (r.map .i) := by
  obtain ⟨a, R, c, e, hS, h1, h2, h3⟩ := H.atSl (k := k) (z' := 1) (n' := r.length) (cs' := r.map .i) (by rw [List.getElem?_map, hk]; rfl)
  exact ⟨a, R, c, e, hS, h1, h2, h3⟩
/-- what Good tells: an automaton of at most 4 states, of three labels; all of it new -/
def GoodRetH (w : World) (e : Ending) (w' : World) : Prop := ∃ (h : Hd) (A : Option Addr) (c : Nat) (B : Option Addr) (c1 : Nat) (C : Option Addr) (c2 : Nat), e = .returned (hdVal h A c B c1 C c2) ∧ HdOk h 4 ∧ h.labs.length = 3 ∧ HdV w' (fun b => w.heap.size ≤ b ∧ b < w'.heap.size) h A c B c1 C c2 ∧ Below w.heap.size w w'
set_option maxHeartbeats 4000000 in
set_option maxRecDepth 100000 in
theorem Good_any {w : World} {x : Int} {A B : Option Addr} {c c' : Nat} {ls : List (List Int)} {l : List Int} (hx : IntB x) (HL : RowsIn w A ls) (HR : SlP w (fun b => b < w.heap.size) 1 B l.length (l.map .i)) (hrb : l.length ≤ 9223372036854775807) (hb : ∀ x ∈ l, IntB x) :
    Calls Try.prog 11 #[.int .i64 x, .slice A ls.length c, .slice B l.length c'] w (GoodRetH w) := by
  have hB0 := (Below.refl _ w).alloc (Nat.le_refl _) (.cells #[.int .i64 0, .slice none 0 0, .slice none 0 0, .slice none 0 0] 28)
  have hx0 := heap_alloc_new w (.cells #[.int .i64 0, .slice none 0 0, .slice none 0 0, .slice none 0 0] 28)
  have hs0 : (w.alloc (.cells #[.int .i64 0, .slice none 0 0, .slice none 0 0, .slice none 0 0] 28)).heap.size = w.heap.size + 1 := World.size_alloc _ _
  go_enter Try.func11, Try.ntmps11
  go_upto_region 1 with fail
  generalize w.alloc (.cells #[.int .i64 0, .slice none 0 0, .slice none 0 0, .slice none 0 0] 28) = W1 at *
  have HLL := Lib.hid (HL.on hB0)
  have HRR := Lib.hid (And.intro (Sl.on HR hB0) hb)
  have HX0 := Lib.hid hx0
  have HB0 := Lib.hid hB0
  have HRD := Lib.hid (round_any W1 hx (m := 4) (by omega) (by omega))
  have hlb := HL.len
  clear HL HR hb hx0 hB0
  go_wp2_with fail
  refine HRD.out.mono ?_
  rintro e w' ⟨r, hr, rfl, rfl⟩
  obtain ⟨k, hk⟩ : ∃ k : Nat, (1 : Int) + (r : Int) = (k : Int) := ⟨1 + r, by omega⟩
  have hk1 : 1 ≤ k := by omega
  have hk4 : k ≤ 4 := by omega
  go_upto_region 2 with fail
  clear hk
  obtain ⟨hg, hhg⟩ : ∃ hg, hg = w.heap.size + 1 := ⟨_, rfl⟩
  have hB2 := (Below.refl _ W1).alloc (Nat.le_refl _) (.cells #[.int .i64 (k : Int), .slice none 0 0, .slice none 0 0, .slice none 0 0] 28)
  have hx2 := heap_alloc_new W1 (.cells #[.int .i64 (k : Int), .slice none 0 0, .slice none 0 0, .slice none 0 0] 28)
  rw [hs0, ← hhg] at hx2
  rw [← hhg]
  generalize W1.alloc (.cells #[.int .i64 (k : Int), .slice none 0 0, .slice none 0 0, .slice none 0 0] 28) = W2 at *
  have HHG := Lib.hid hhg
  have HB2 := Lib.hid hB2
  have HX2 := Lib.hid hx2
  clear hhg hB2 hx2
  go_wp2
  go_loopw [8] (fun iv wr => ∃ (i cN : Nat) (N : Option Addr) (labs : List Sd), iv = .int .i64 i ∧ i ≤ 3 ∧ labs.length = i ∧ Hid (∀ s ∈ labs, SdOk s k k ∧ s.out.length ≤ 4) ∧ wr.heap[hg]? = some (.cells #[.int .i64 (k : Int), .slice N i cN, .slice none 0 0, .slice none 0 0] 28 (0, 0)) ∧
    OwnC wr (W1.heap.size + 1) 26 2 N i cN (labs.flatMap sdC) ∧ Below W1.heap.size W1 wr) (fun iv _ => 3 - (intOf iv).toNat)
  case atStart => exact ⟨0, 0, none, [], rfl, Nat.zero_le _, rfl, (fun s hs => by cases hs), HX2.out, OwnC.nil _ _ _ _, HB2.out⟩
  case round =>
    obtain ⟨i, cN, N, labs, rfl, hi, hlen, hall, hgc, hO, hbr⟩ := hrel
    have HGC := Lib.hid hgc
    have HO := Lib.hid hO
    have HBR := Lib.hid hbr
    have HLE := Lib.hid hlen
    clear hgc hO hbr hlen
    by_cases hlt : i < 3
    · have hiI : (i : Int) < 3 := by omega
      have hi0 : (0 : Int) ≤ (i : Int) := by omega
      go_upto_if 21 with fail
      go_cut [9, 21, 22, 23, 24, 25] (fun s9 _ _ _ _ _ wx => ∃ (A' : Option Addr) (c' : Nat) (l' : List Int), s9 = .slice A' l'.length c' ∧ SlP wr (fun b => b < wr.heap.size) 1 A' l'.length (l'.map .i) ∧ l'.length ≤ 9223372036854775807 ∧ Hid (∀ x ∈ l', IntB x) ∧ wx = wr)
      case first =>
        by_cases hpl : i < ls.length
        · have hpI : (i : Int) < (ls.length : Int) := by omega
          obtain ⟨l', hl'⟩ : ∃ l', ls[i]? = some l' := ⟨_, List.getElem?_eq_getElem hpl⟩
          obtain ⟨a, R, rc, rfl, hab, k0, hcp, hsl⟩ := rows_at (HLL.out.on HBR.out).sl hl'
          have HBD := Lib.hid (HLL.out.bd l' (List.mem_of_getElem? hl'))
          have HSL := Lib.hid hsl
          clear hl' hsl
          go_wp2
          go_meet
          exact ⟨R, rc, l', rfl, HSL.out, hcp.len, HBD.out, rfl⟩
        · have hpI : ¬ (i : Int) < (ls.length : Int) := by omega
          go_wp2
          go_meet
          exact ⟨none, 0, [], rfl, SlP.nil _ _ _ _, by simp, (fun x hx => by cases hx), rfl⟩
      case rest =>
        obtain ⟨A', c', l', rfl, hsl, hll, hbd, rfl⟩ := hcut
        rename World => wr
        have hgl := (Array.getElem?_eq_some_iff.1 HGC.out).1
        have z0 := Lib.cell_of_heap HGC.out 0
        have z1 := Lib.cell_of_heap HGC.out 1
        have f1 := Lib.frozen_of_heap HGC.out 1
        simp only [List.getElem?_toArray, List.getElem?_cons_zero, List.getElem?_cons_succ] at z0 z1
        obtain ⟨xs, o1, o2⟩ := HO.out
        have HG := Lib.hid (good_any (w := wr.drew) (c := c') (Sl.on hsl (Below.drew (Below.refl _ wr))) hll hbd.out hk1 hk4 hk1 hk4)
        have HO1 := Lib.hid o1
        have HO2 := Lib.hid o2
        have hneg : some hg ≠ (Value.slice N i cN).ownBlock := fun e => by have := (HO1.out.lt hg e.symm).1; have := HHG.out; omega
        clear hsl o1 o2
        go_upto_region 8 with fail
        refine wp_region_noPanic ?_
        refine wp_region_held_drew (S := (fun w' => w'.cell? ⟨hg, 0, none⟩ = some (.int .i64 (k : Int)))) (by kernel_rfl) ?_ (fun hHeld => ?_)
        · (try dsimp only)
          (first | exact z0 | exact y0 | exact g72 | exact (World.cell?_setCell_other _ _ _ _ (by simp)).trans g72 | exact (World.cell?_of_block (a := ⟨hg, 0, none⟩) (Below.heap_alloc W5 _ hg hg5)).trans y0 | go_keep)
        refine wpAnyH_take (i := 0) (v := ?_) rfl (by kernel_rfl) (by kernel_rfl) (by kernel_rfl) (fun _ _ _ h => h) (Or.inl ⟨by rfl, ?_⟩) (by assumption) ?_
        rotate_left
        · (intro w hSw; (try dsimp only at hSw); go_simp; try with_reducible rfl)
        try simp only [Act.put, List.setIfInBounds_toArray, List.set_cons_zero, List.set_cons_succ]
        refine wpAnyH_take (i := 2) (v := ?_) rfl (by kernel_rfl) (by kernel_rfl) (by kernel_rfl) (fun _ _ _ h => h) (Or.inl ⟨by rfl, ?_⟩) (by assumption) ?_
        rotate_left
        · (intro w hSw; (try dsimp only at hSw); go_simp; try with_reducible rfl)
        try simp only [Act.put, List.setIfInBounds_toArray, List.set_cons_zero, List.set_cons_succ]
        refine wpAnyH_take (i := 3) (v := ?_) rfl (by kernel_rfl) (by kernel_rfl) (by kernel_rfl) (fun _ _ _ h => h) (Or.inl ⟨by rfl, ?_⟩) (by assumption) ?_
        rotate_left
        · (intro w hSw; (try dsimp only at hSw); go_simp; try with_reducible rfl)
        try simp only [Act.put, List.setIfInBounds_toArray, List.set_cons_zero, List.set_cons_succ]
        refine wpAnyH_take (i := 4) (v := ?_) rfl (by kernel_rfl) (by kernel_rfl) (by kernel_rfl) (fun _ _ _ h => h) (Or.inl ⟨by rfl, ?_⟩) (by assumption) ?_
        rotate_left
        · (intro w hSw; (try dsimp only at hSw); go_simp; try with_reducible rfl)
        try simp only [Act.put, List.setIfInBounds_toArray, List.set_cons_zero, List.set_cons_succ]
        refine wpAnyH_take (i := 5) (v := ?_) rfl (by kernel_rfl) (by kernel_rfl) (by kernel_rfl) (fun _ _ _ h => h) (Or.inl ⟨by rfl, ?_⟩) (by assumption) ?_
        rotate_left
        · (intro w hSw; (try dsimp only at hSw); go_simp; try with_reducible rfl)
        try simp only [Act.put, List.setIfInBounds_toArray, List.set_cons_zero, List.set_cons_succ]
        refine wpAnyH_take (i := 6) (v := ?_) rfl (by kernel_rfl) (by kernel_rfl) (by kernel_rfl) (fun _ _ _ h => h) (Or.inl ⟨by rfl, ?_⟩) (by assumption) ?_
        rotate_left
        · (intro w hSw; (try dsimp only at hSw); go_simp; try with_reducible rfl)
        try simp only [Act.put, List.setIfInBounds_toArray, List.set_cons_zero, List.set_cons_succ]
        refine wpAnyH_ready (rs := [1, 7]) (by kernel_rfl) (by simp) ?_
        refine AllReadyH.cons rfl (fun K hK => ?_) ?_
        · go_simp
          refine hK.out _ _ ?_ (fun hNew => ?_)
          · (try dsimp only)
            (first | exact z0 | exact y0 | exact g72 | exact (World.cell?_setCell_other _ _ _ _ (by simp)).trans g72 | exact (World.cell?_of_block (a := ⟨hg, 0, none⟩) (Below.heap_alloc W5 _ hg hg5)).trans y0 | go_keep)
          clear hK K
          try simp only [Act.put, List.setIfInBounds_toArray, List.set_cons_zero, List.set_cons_succ]
          clear hHeld
          have hHeld := hNew
          clear hNew
          refine wpAnyH_ready (rs := [7]) (by kernel_rfl) (by simp) ?_
          refine AllReadyH.cons rfl (fun K hK => ?_) ?_
          · go_simp
            (go_at_call 32; refine HG.out.mono ?_; rintro e W5 ⟨s, B', c1', C', c2', rfl, t1, t2, t3, b5⟩; have hg5 := Nat.lt_of_lt_of_le hgl b5.size; have y1 := (b5.cell (p := ⟨hg, 1, none⟩) hgl).trans z1; have y0 := (b5.cell (p := ⟨hg, 0, none⟩) hgl).trans z0; have yf := (b5.frozen (p := ⟨hg, 1, none⟩) hgl).trans f1; have ya := (World.cell?_of_block (a := ⟨hg, 1, none⟩) (Below.heap_alloc W5 (.cells #[.slice B' s.nx.length c1', .slice C' s.out.length c2'] 26) hg hg5)).trans y1; have o5 := own_below HO1.out ((Below.drew (Below.refl _ wr)).trans b5) (Nat.le_refl _); have hbs5 : W1.heap.size + 1 ≤ W5.heap.size := by have h9 := HHG.out; omega)
            try go_wp2_with fail
            refine hK.out _ _ ?_ (fun hNew => ?_)
            · (try dsimp only)
              (first | exact z0 | exact y0 | exact g72 | exact (World.cell?_setCell_other _ _ _ _ (by simp)).trans g72 | exact (World.cell?_of_block (a := ⟨hg, 0, none⟩) (Below.heap_alloc W5 _ hg hg5)).trans y0 | go_keep)
            clear hK K
            try simp only [Act.put, List.setIfInBounds_toArray, List.set_cons_zero, List.set_cons_succ]
            clear hHeld
            have hHeld := hNew
            clear hNew
            refine wpAnyH_ready (rs := [8]) (by kernel_rfl) (by simp) ?_
            refine AllReadyH.cons rfl (fun K hK => ?_) ?_
            · go_simp
              refine hK.out _ _ ?_ (fun hNew => ?_)
              · (try dsimp only)
                (first | exact z0 | exact y0 | exact g72 | exact (World.cell?_setCell_other _ _ _ _ (by simp)).trans g72 | exact (World.cell?_of_block (a := ⟨hg, 0, none⟩) (Below.heap_alloc W5 _ hg hg5)).trans y0 | go_keep)
              clear hK K
              try simp only [Act.put, List.setIfInBounds_toArray, List.set_cons_zero, List.set_cons_succ]
              clear hHeld
              have hHeld := hNew
              clear hNew
              refine wpAnyH_ready (rs := [9]) (by kernel_rfl) (by simp) ?_
              refine AllReadyH.cons rfl (fun K hK => ?_) ?_
              · (refine step_push (by rfl) _ _ _ (by rfl) (W1.heap.size + 1) rowSd N i cN _ (by rfl) (o5.alloc _) W5.heap.size 1 _ (by rfl) (heap_alloc_new W5 _) (by rfl) (by simp [Value.oneCell']) (by unfold maxLen; omega) (by omega) (by simp; omega) ?_; intro N7 cN7 W7 hc7 ho7 hg7 hat7; have g70 := (grown_cell hg7 (a := ⟨hg, 1, none⟩) (by simp; omega) hneg).1.trans ya; have g71 := (grown_cell hg7 (a := ⟨hg, 1, none⟩) (by simp; omega) hneg).2.trans ((World.frozen?_of_block (a := ⟨hg, 1, none⟩) (Below.heap_alloc W5 (.cells #[.slice B' s.nx.length c1', .slice C' s.out.length c2'] 26) hg hg5)).trans yf); have g72 := (grown_cell hg7 (a := ⟨hg, 0, none⟩) (by simp; omega) hneg).1.trans ((World.cell?_of_block (a := ⟨hg, 0, none⟩) (Below.heap_alloc W5 (.cells #[.slice B' s.nx.length c1', .slice C' s.out.length c2'] 26) hg hg5)).trans y0))
                refine hK.out _ _ ?_ (fun hNew => ?_)
                · (try dsimp only)
                  (first | exact z0 | exact y0 | exact g72 | exact (World.cell?_setCell_other _ _ _ _ (by simp)).trans g72 | exact (World.cell?_of_block (a := ⟨hg, 0, none⟩) (Below.heap_alloc W5 _ hg hg5)).trans y0 | go_keep)
                clear hK K
                try simp only [Act.put, List.setIfInBounds_toArray, List.set_cons_zero, List.set_cons_succ]
                clear hHeld
                have hHeld := hNew
                clear hNew
                refine wpAnyH_take (i := 10) (v := ?_) rfl (by kernel_rfl) (by kernel_rfl) (by kernel_rfl) (fun _ _ _ h => h) (Or.inl ⟨by rfl, ?_⟩) (by assumption) ?_
                rotate_left
                · (intro w hSw; (try dsimp only at hSw); go_simp; try with_reducible rfl)
                try simp only [Act.put, List.setIfInBounds_toArray, List.set_cons_zero, List.set_cons_succ]
                refine wpAnyH_ready (rs := [11]) (by kernel_rfl) (by simp) ?_
                refine AllReadyH.cons rfl (fun K hK => ?_) ?_
                · go_simp
                  refine hK.out _ _ ?_ (fun hNew => ?_)
                  · (try dsimp only)
                    (first | exact z0 | exact y0 | exact g72 | exact (World.cell?_setCell_other _ _ _ _ (by simp)).trans g72 | exact (World.cell?_of_block (a := ⟨hg, 0, none⟩) (Below.heap_alloc W5 _ hg hg5)).trans y0 | go_keep)
                  clear hK K
                  try simp only [Act.put, List.setIfInBounds_toArray, List.set_cons_zero, List.set_cons_succ]
                  clear hHeld
                  have hHeld := hNew
                  clear hNew
                  refine wpAnyH_done (by kernel_rfl) ?_ _
                  refine NoPanic.normal ?_
                  have hbw5 := (Below.drew (Below.refl _ wr)).trans b5
                  have hba := (Below.refl _ W5).alloc (Nat.le_refl _) (.cells #[.slice B' s.nx.length c1', .slice C' s.out.length c2'] 26)
                  have hgc7 := (hg7.block hg (by simp; omega) hneg).trans ((hba.block hg hg5).trans ((hbw5.block hg hgl).trans HGC.out))
                  have hgc8 := heap_setCell_same W7 hg 1 _ _ (.slice N7 (i + 1) cN7) hgc7
                  rw [show (#[Value.int .i64 (k : Int), .slice N i cN, .slice none 0 0, .slice none 0 0].setIfInBounds 1 (.slice N7 (i + 1) cN7)) = #[.int .i64 (k : Int), .slice N7 (i + 1) cN7, .slice none 0 0, .slice none 0 0] from rfl] at hgc8
                  have hNl : ∀ q, (Value.slice N i cN).ownBlock = some q → hg < q ∧ q < wr.heap.size := fun q hq => ⟨by have h9 := (HO1.out.lt q hq).1; have h8 := HHG.out; omega, (HO1.out.lt q hq).2⟩
                  have hap : ∀ q, wr.heap.size ≤ q ∧ q < W5.heap.size → Apart (W1.heap.size + 1) (W5.alloc (.cells #[.slice B' s.nx.length c1', .slice C' s.out.length c2'] 26)) (.slice N i cN) q := fun q hq => ⟨by have h9 := HHG.out; omega, Nat.lt_of_lt_of_le hq.2 hba.size, fun e => by have := (hNl q e).2; omega⟩
                  have h7 := OwnC.push (apart_below (apart_below HO2.out hbw5) hba) ho7 hg7 hat7 (show CsIsP _ _ (sdC s) [.slice B' s.nx.length c1', .slice C' s.out.length c2'] from
                    CsIsP.cons (CIsP.sl ((SlP.keep t3.nx fun p hp => hba.cell hp.2).more hap) t3.le1) (CsIsP.cons (CIsP.sl ((SlP.keep t3.out fun p hp => hba.cell hp.2).more hap) t3.le2) (CsIsP.nil _ _)))
                  have h8 : OwnC (W7.setCell ⟨hg, 1, none⟩ (.slice N7 (i + 1) cN7)) (W1.heap.size + 1) 26 2 N7 (i + 1) cN7 ((labs ++ [s]).flatMap sdC) := by
                    have h9 := h7.far (w' := W7.setCell ⟨hg, 1, none⟩ (.slice N7 (i + 1) cN7)) (by rw [size_set]; exact Nat.le_refl _) fun q hq _ => heap_set_other (p := ⟨hg, 1, none⟩) (by have h9 := HHG.out; show q ≠ hg; omega)
                    rw [List.flatMap_append, List.flatMap_cons, List.flatMap_nil, List.append_nil]
                    exact h9
                  have hb8 : Below W1.heap.size W1 (W7.setCell ⟨hg, 1, none⟩ (.slice N7 (i + 1) cN7)) := (((HBR.out.trans (hbw5.mono HBR.out.size)).alloc (by have := HBR.out.size; have := hbw5.size; omega) _).grown hg7 (by simp; omega) (fun q hq => by have := (hNl q hq).1; have h9 := HHG.out; omega)).setCell (p := ⟨hg, 1, none⟩) (by have h9 := HHG.out; show _ ≤ hg; omega) _
                  have HB8 := Lib.hid hb8
                  have HO8 := Lib.hid h8
                  have HC8 := Lib.hid hgc8
                  have HALL := Lib.hid (show ∀ s' ∈ labs ++ [s], SdOk s' k k ∧ s'.out.length ≤ 4 from fun s' hs' => by
                    rcases List.mem_append.1 hs' with h9 | h9
                    · exact hall.out s' h9
                    · rw [List.mem_singleton.1 h9]; exact ⟨t1, t2⟩)
                  clear hbw5 hba hgc7 hgc8 hNl hap h7 h8 hb8 ho7 hg7 hat7 hHeld t1 t2 t3 b5 o5 y0 y1 ya yf g70 g71 g72 z0 z1 f1 hc7
                  generalize W7.setCell ⟨hg, 1, none⟩ (.slice N7 (i + 1) cN7) = W8 at *
                  go_wp2
                  go_roundw
                  case rel => exact ⟨i + 1, cN7, N7, labs ++ [s], by go_num, by omega, by rw [List.length_append, HLE.out]; rfl, HALL.out, HC8.out, HO8.out, HB8.out⟩
                  case measure => simp [intOf]; omega
                exact AllReadyH.nil
              exact AllReadyH.nil
            exact AllReadyH.nil
          exact AllReadyH.nil
        refine AllReadyH.cons rfl (fun K hK => ?_) ?_
        · go_simp
          (go_at_call 32; refine HG.out.mono ?_; rintro e W5 ⟨s, B', c1', C', c2', rfl, t1, t2, t3, b5⟩; have hg5 := Nat.lt_of_lt_of_le hgl b5.size; have y1 := (b5.cell (p := ⟨hg, 1, none⟩) hgl).trans z1; have y0 := (b5.cell (p := ⟨hg, 0, none⟩) hgl).trans z0; have yf := (b5.frozen (p := ⟨hg, 1, none⟩) hgl).trans f1; have ya := (World.cell?_of_block (a := ⟨hg, 1, none⟩) (Below.heap_alloc W5 (.cells #[.slice B' s.nx.length c1', .slice C' s.out.length c2'] 26) hg hg5)).trans y1; have o5 := own_below HO1.out ((Below.drew (Below.refl _ wr)).trans b5) (Nat.le_refl _); have hbs5 : W1.heap.size + 1 ≤ W5.heap.size := by have h9 := HHG.out; omega)
          try go_wp2_with fail
          refine hK.out _ _ ?_ (fun hNew => ?_)
          · (try dsimp only)
            (first | exact z0 | exact y0 | exact g72 | exact (World.cell?_setCell_other _ _ _ _ (by simp)).trans g72 | exact (World.cell?_of_block (a := ⟨hg, 0, none⟩) (Below.heap_alloc W5 _ hg hg5)).trans y0 | go_keep)
          clear hK K
          try simp only [Act.put, List.setIfInBounds_toArray, List.set_cons_zero, List.set_cons_succ]
          clear hHeld
          have hHeld := hNew
          clear hNew
          refine wpAnyH_ready (rs := [1, 8]) (by kernel_rfl) (by simp) ?_
          refine AllReadyH.cons rfl (fun K hK => ?_) ?_
          · go_simp
            refine hK.out _ _ ?_ (fun hNew => ?_)
            · (try dsimp only)
              (first | exact z0 | exact y0 | exact g72 | exact (World.cell?_setCell_other _ _ _ _ (by simp)).trans g72 | exact (World.cell?_of_block (a := ⟨hg, 0, none⟩) (Below.heap_alloc W5 _ hg hg5)).trans y0 | go_keep)
            clear hK K
            try simp only [Act.put, List.setIfInBounds_toArray, List.set_cons_zero, List.set_cons_succ]
            clear hHeld
            have hHeld := hNew
            clear hNew
            refine wpAnyH_ready (rs := [8]) (by kernel_rfl) (by simp) ?_
            refine AllReadyH.cons rfl (fun K hK => ?_) ?_
            · go_simp
              refine hK.out _ _ ?_ (fun hNew => ?_)
              · (try dsimp only)
                (first | exact z0 | exact y0 | exact g72 | exact (World.cell?_setCell_other _ _ _ _ (by simp)).trans g72 | exact (World.cell?_of_block (a := ⟨hg, 0, none⟩) (Below.heap_alloc W5 _ hg hg5)).trans y0 | go_keep)
              clear hK K
              try simp only [Act.put, List.setIfInBounds_toArray, List.set_cons_zero, List.set_cons_succ]
              clear hHeld
              have hHeld := hNew
              clear hNew
              refine wpAnyH_ready (rs := [9]) (by kernel_rfl) (by simp) ?_
              refine AllReadyH.cons rfl (fun K hK => ?_) ?_
              · (refine step_push (by rfl) _ _ _ (by rfl) (W1.heap.size + 1) rowSd N i cN _ (by rfl) (o5.alloc _) W5.heap.size 1 _ (by rfl) (heap_alloc_new W5 _) (by rfl) (by simp [Value.oneCell']) (by unfold maxLen; omega) (by omega) (by simp; omega) ?_; intro N7 cN7 W7 hc7 ho7 hg7 hat7; have g70 := (grown_cell hg7 (a := ⟨hg, 1, none⟩) (by simp; omega) hneg).1.trans ya; have g71 := (grown_cell hg7 (a := ⟨hg, 1, none⟩) (by simp; omega) hneg).2.trans ((World.frozen?_of_block (a := ⟨hg, 1, none⟩) (Below.heap_alloc W5 (.cells #[.slice B' s.nx.length c1', .slice C' s.out.length c2'] 26) hg hg5)).trans yf); have g72 := (grown_cell hg7 (a := ⟨hg, 0, none⟩) (by simp; omega) hneg).1.trans ((World.cell?_of_block (a := ⟨hg, 0, none⟩) (Below.heap_alloc W5 (.cells #[.slice B' s.nx.length c1', .slice C' s.out.length c2'] 26) hg hg5)).trans y0))
                refine hK.out _ _ ?_ (fun hNew => ?_)
                · (try dsimp only)
                  (first | exact z0 | exact y0 | exact g72 | exact (World.cell?_setCell_other _ _ _ _ (by simp)).trans g72 | exact (World.cell?_of_block (a := ⟨hg, 0, none⟩) (Below.heap_alloc W5 _ hg hg5)).trans y0 | go_keep)
                clear hK K
                try simp only [Act.put, List.setIfInBounds_toArray, List.set_cons_zero, List.set_cons_succ]
                clear hHeld
                have hHeld := hNew
                clear hNew
                refine wpAnyH_take (i := 10) (v := ?_) rfl (by kernel_rfl) (by kernel_rfl) (by kernel_rfl) (fun _ _ _ h => h) (Or.inl ⟨by rfl, ?_⟩) (by assumption) ?_
                rotate_left
                · (intro w hSw; (try dsimp only at hSw); go_simp; try with_reducible rfl)
                try simp only [Act.put, List.setIfInBounds_toArray, List.set_cons_zero, List.set_cons_succ]
                refine wpAnyH_ready (rs := [11]) (by kernel_rfl) (by simp) ?_
                refine AllReadyH.cons rfl (fun K hK => ?_) ?_
                · go_simp
                  refine hK.out _ _ ?_ (fun hNew => ?_)
                  · (try dsimp only)
                    (first | exact z0 | exact y0 | exact g72 | exact (World.cell?_setCell_other _ _ _ _ (by simp)).trans g72 | exact (World.cell?_of_block (a := ⟨hg, 0, none⟩) (Below.heap_alloc W5 _ hg hg5)).trans y0 | go_keep)
                  clear hK K
                  try simp only [Act.put, List.setIfInBounds_toArray, List.set_cons_zero, List.set_cons_succ]
                  clear hHeld
                  have hHeld := hNew
                  clear hNew
                  refine wpAnyH_done (by kernel_rfl) ?_ _
                  refine NoPanic.normal ?_
                  have hbw5 := (Below.drew (Below.refl _ wr)).trans b5
                  have hba := (Below.refl _ W5).alloc (Nat.le_refl _) (.cells #[.slice B' s.nx.length c1', .slice C' s.out.length c2'] 26)
                  have hgc7 := (hg7.block hg (by simp; omega) hneg).trans ((hba.block hg hg5).trans ((hbw5.block hg hgl).trans HGC.out))
                  have hgc8 := heap_setCell_same W7 hg 1 _ _ (.slice N7 (i + 1) cN7) hgc7
                  rw [show (#[Value.int .i64 (k : Int), .slice N i cN, .slice none 0 0, .slice none 0 0].setIfInBounds 1 (.slice N7 (i + 1) cN7)) = #[.int .i64 (k : Int), .slice N7 (i + 1) cN7, .slice none 0 0, .slice none 0 0] from rfl] at hgc8
                  have hNl : ∀ q, (Value.slice N i cN).ownBlock = some q → hg < q ∧ q < wr.heap.size := fun q hq => ⟨by have h9 := (HO1.out.lt q hq).1; have h8 := HHG.out; omega, (HO1.out.lt q hq).2⟩
                  have hap : ∀ q, wr.heap.size ≤ q ∧ q < W5.heap.size → Apart (W1.heap.size + 1) (W5.alloc (.cells #[.slice B' s.nx.length c1', .slice C' s.out.length c2'] 26)) (.slice N i cN) q := fun q hq => ⟨by have h9 := HHG.out; omega, Nat.lt_of_lt_of_le hq.2 hba.size, fun e => by have := (hNl q e).2; omega⟩
                  have h7 := OwnC.push (apart_below (apart_below HO2.out hbw5) hba) ho7 hg7 hat7 (show CsIsP _ _ (sdC s) [.slice B' s.nx.length c1', .slice C' s.out.length c2'] from
                    CsIsP.cons (CIsP.sl ((SlP.keep t3.nx fun p hp => hba.cell hp.2).more hap) t3.le1) (CsIsP.cons (CIsP.sl ((SlP.keep t3.out fun p hp => hba.cell hp.2).more hap) t3.le2) (CsIsP.nil _ _)))
                  have h8 : OwnC (W7.setCell ⟨hg, 1, none⟩ (.slice N7 (i + 1) cN7)) (W1.heap.size + 1) 26 2 N7 (i + 1) cN7 ((labs ++ [s]).flatMap sdC) := by
                    have h9 := h7.far (w' := W7.setCell ⟨hg, 1, none⟩ (.slice N7 (i + 1) cN7)) (by rw [size_set]; exact Nat.le_refl _) fun q hq _ => heap_set_other (p := ⟨hg, 1, none⟩) (by have h9 := HHG.out; show q ≠ hg; omega)
                    rw [List.flatMap_append, List.flatMap_cons, List.flatMap_nil, List.append_nil]
                    exact h9
                  have hb8 : Below W1.heap.size W1 (W7.setCell ⟨hg, 1, none⟩ (.slice N7 (i + 1) cN7)) := (((HBR.out.trans (hbw5.mono HBR.out.size)).alloc (by have := HBR.out.size; have := hbw5.size; omega) _).grown hg7 (by simp; omega) (fun q hq => by have := (hNl q hq).1; have h9 := HHG.out; omega)).setCell (p := ⟨hg, 1, none⟩) (by have h9 := HHG.out; show _ ≤ hg; omega) _
                  have HB8 := Lib.hid hb8
                  have HO8 := Lib.hid h8
                  have HC8 := Lib.hid hgc8
                  have HALL := Lib.hid (show ∀ s' ∈ labs ++ [s], SdOk s' k k ∧ s'.out.length ≤ 4 from fun s' hs' => by
                    rcases List.mem_append.1 hs' with h9 | h9
                    · exact hall.out s' h9
                    · rw [List.mem_singleton.1 h9]; exact ⟨t1, t2⟩)
                  clear hbw5 hba hgc7 hgc8 hNl hap h7 h8 hb8 ho7 hg7 hat7 hHeld t1 t2 t3 b5 o5 y0 y1 ya yf g70 g71 g72 z0 z1 f1 hc7
                  generalize W7.setCell ⟨hg, 1, none⟩ (.slice N7 (i + 1) cN7) = W8 at *
                  go_wp2
                  go_roundw
                  case rel => exact ⟨i + 1, cN7, N7, labs ++ [s], by go_num, by omega, by rw [List.length_append, HLE.out]; rfl, HALL.out, HC8.out, HO8.out, HB8.out⟩
                  case measure => simp [intOf]; omega
                exact AllReadyH.nil
              exact AllReadyH.nil
            exact AllReadyH.nil
          refine AllReadyH.cons rfl (fun K hK => ?_) ?_
          · go_simp
            refine hK.out _ _ ?_ (fun hNew => ?_)
            · (try dsimp only)
              (first | exact z0 | exact y0 | exact g72 | exact (World.cell?_setCell_other _ _ _ _ (by simp)).trans g72 | exact (World.cell?_of_block (a := ⟨hg, 0, none⟩) (Below.heap_alloc W5 _ hg hg5)).trans y0 | go_keep)
            clear hK K
            try simp only [Act.put, List.setIfInBounds_toArray, List.set_cons_zero, List.set_cons_succ]
            clear hHeld
            have hHeld := hNew
            clear hNew
            refine wpAnyH_ready (rs := [1]) (by kernel_rfl) (by simp) ?_
            refine AllReadyH.cons rfl (fun K hK => ?_) ?_
            · go_simp
              refine hK.out _ _ ?_ (fun hNew => ?_)
              · (try dsimp only)
                (first | exact z0 | exact y0 | exact g72 | exact (World.cell?_setCell_other _ _ _ _ (by simp)).trans g72 | exact (World.cell?_of_block (a := ⟨hg, 0, none⟩) (Below.heap_alloc W5 _ hg hg5)).trans y0 | go_keep)
              clear hK K
              try simp only [Act.put, List.setIfInBounds_toArray, List.set_cons_zero, List.set_cons_succ]
              clear hHeld
              have hHeld := hNew
              clear hNew
              refine wpAnyH_ready (rs := [9]) (by kernel_rfl) (by simp) ?_
              refine AllReadyH.cons rfl (fun K hK => ?_) ?_
              · (refine step_push (by rfl) _ _ _ (by rfl) (W1.heap.size + 1) rowSd N i cN _ (by rfl) (o5.alloc _) W5.heap.size 1 _ (by rfl) (heap_alloc_new W5 _) (by rfl) (by simp [Value.oneCell']) (by unfold maxLen; omega) (by omega) (by simp; omega) ?_; intro N7 cN7 W7 hc7 ho7 hg7 hat7; have g70 := (grown_cell hg7 (a := ⟨hg, 1, none⟩) (by simp; omega) hneg).1.trans ya; have g71 := (grown_cell hg7 (a := ⟨hg, 1, none⟩) (by simp; omega) hneg).2.trans ((World.frozen?_of_block (a := ⟨hg, 1, none⟩) (Below.heap_alloc W5 (.cells #[.slice B' s.nx.length c1', .slice C' s.out.length c2'] 26) hg hg5)).trans yf); have g72 := (grown_cell hg7 (a := ⟨hg, 0, none⟩) (by simp; omega) hneg).1.trans ((World.cell?_of_block (a := ⟨hg, 0, none⟩) (Below.heap_alloc W5 (.cells #[.slice B' s.nx.length c1', .slice C' s.out.length c2'] 26) hg hg5)).trans y0))
                refine hK.out _ _ ?_ (fun hNew => ?_)
                · (try dsimp only)
                  (first | exact z0 | exact y0 | exact g72 | exact (World.cell?_setCell_other _ _ _ _ (by simp)).trans g72 | exact (World.cell?_of_block (a := ⟨hg, 0, none⟩) (Below.heap_alloc W5 _ hg hg5)).trans y0 | go_keep)
                clear hK K
                try simp only [Act.put, List.setIfInBounds_toArray, List.set_cons_zero, List.set_cons_succ]
                clear hHeld
                have hHeld := hNew
                clear hNew
                refine wpAnyH_take (i := 10) (v := ?_) rfl (by kernel_rfl) (by kernel_rfl) (by kernel_rfl) (fun _ _ _ h => h) (Or.inl ⟨by rfl, ?_⟩) (by assumption) ?_
                rotate_left
                · (intro w hSw; (try dsimp only at hSw); go_simp; try with_reducible rfl)
                try simp only [Act.put, List.setIfInBounds_toArray, List.set_cons_zero, List.set_cons_succ]
                refine wpAnyH_ready (rs := [11]) (by kernel_rfl) (by simp) ?_
                refine AllReadyH.cons rfl (fun K hK => ?_) ?_
                · go_simp
                  refine hK.out _ _ ?_ (fun hNew => ?_)
                  · (try dsimp only)
                    (first | exact z0 | exact y0 | exact g72 | exact (World.cell?_setCell_other _ _ _ _ (by simp)).trans g72 | exact (World.cell?_of_block (a := ⟨hg, 0, none⟩) (Below.heap_alloc W5 _ hg hg5)).trans y0 | go_keep)
                  clear hK K
                  try simp only [Act.put, List.setIfInBounds_toArray, List.set_cons_zero, List.set_cons_succ]
                  clear hHeld
                  have hHeld := hNew
                  clear hNew
                  refine wpAnyH_done (by kernel_rfl) ?_ _
                  refine NoPanic.normal ?_
                  have hbw5 := (Below.drew (Below.refl _ wr)).trans b5
                  have hba := (Below.refl _ W5).alloc (Nat.le_refl _) (.cells #[.slice B' s.nx.length c1', .slice C' s.out.length c2'] 26)
                  have hgc7 := (hg7.block hg (by simp; omega) hneg).trans ((hba.block hg hg5).trans ((hbw5.block hg hgl).trans HGC.out))
                  have hgc8 := heap_setCell_same W7 hg 1 _ _ (.slice N7 (i + 1) cN7) hgc7
                  rw [show (#[Value.int .i64 (k : Int), .slice N i cN, .slice none 0 0, .slice none 0 0].setIfInBounds 1 (.slice N7 (i + 1) cN7)) = #[.int .i64 (k : Int), .slice N7 (i + 1) cN7, .slice none 0 0, .slice none 0 0] from rfl] at hgc8
                  have hNl : ∀ q, (Value.slice N i cN).ownBlock = some q → hg < q ∧ q < wr.heap.size := fun q hq => ⟨by have h9 := (HO1.out.lt q hq).1; have h8 := HHG.out; omega, (HO1.out.lt q hq).2⟩
                  have hap : ∀ q, wr.heap.size ≤ q ∧ q < W5.heap.size → Apart (W1.heap.size + 1) (W5.alloc (.cells #[.slice B' s.nx.length c1', .slice C' s.out.length c2'] 26)) (.slice N i cN) q := fun q hq => ⟨by have h9 := HHG.out; omega, Nat.lt_of_lt_of_le hq.2 hba.size, fun e => by have := (hNl q e).2; omega⟩
                  have h7 := OwnC.push (apart_below (apart_below HO2.out hbw5) hba) ho7 hg7 hat7 (show CsIsP _ _ (sdC s) [.slice B' s.nx.length c1', .slice C' s.out.length c2'] from
                    CsIsP.cons (CIsP.sl ((SlP.keep t3.nx fun p hp => hba.cell hp.2).more hap) t3.le1) (CsIsP.cons (CIsP.sl ((SlP.keep t3.out fun p hp => hba.cell hp.2).more hap) t3.le2) (CsIsP.nil _ _)))
                  have h8 : OwnC (W7.setCell ⟨hg, 1, none⟩ (.slice N7 (i + 1) cN7)) (W1.heap.size + 1) 26 2 N7 (i + 1) cN7 ((labs ++ [s]).flatMap sdC) := by
                    have h9 := h7.far (w' := W7.setCell ⟨hg, 1, none⟩ (.slice N7 (i + 1) cN7)) (by rw [size_set]; exact Nat.le_refl _) fun q hq _ => heap_set_other (p := ⟨hg, 1, none⟩) (by have h9 := HHG.out; show q ≠ hg; omega)
                    rw [List.flatMap_append, List.flatMap_cons, List.flatMap_nil, List.append_nil]
                    exact h9
                  have hb8 : Below W1.heap.size W1 (W7.setCell ⟨hg, 1, none⟩ (.slice N7 (i + 1) cN7)) := (((HBR.out.trans (hbw5.mono HBR.out.size)).alloc (by have := HBR.out.size; have := hbw5.size; omega) _).grown hg7 (by simp; omega) (fun q hq => by have := (hNl q hq).1; have h9 := HHG.out; omega)).setCell (p := ⟨hg, 1, none⟩) (by have h9 := HHG.out; show _ ≤ hg; omega) _
                  have HB8 := Lib.hid hb8
                  have HO8 := Lib.hid h8
                  have HC8 := Lib.hid hgc8
                  have HALL := Lib.hid (show ∀ s' ∈ labs ++ [s], SdOk s' k k ∧ s'.out.length ≤ 4 from fun s' hs' => by
                    rcases List.mem_append.1 hs' with h9 | h9
                    · exact hall.out s' h9
                    · rw [List.mem_singleton.1 h9]; exact ⟨t1, t2⟩)
                  clear hbw5 hba hgc7 hgc8 hNl hap h7 h8 hb8 ho7 hg7 hat7 hHeld t1 t2 t3 b5 o5 y0 y1 ya yf g70 g71 g72 z0 z1 f1 hc7
                  generalize W7.setCell ⟨hg, 1, none⟩ (.slice N7 (i + 1) cN7) = W8 at *
                  go_wp2
                  go_roundw
                  case rel => exact ⟨i + 1, cN7, N7, labs ++ [s], by go_num, by omega, by rw [List.length_append, HLE.out]; rfl, HALL.out, HC8.out, HO8.out, HB8.out⟩
                  case measure => simp [intOf]; omega
                exact AllReadyH.nil
              exact AllReadyH.nil
            exact AllReadyH.nil
          exact AllReadyH.nil
        exact AllReadyH.nil
    · obtain rfl : i = 3 := by omega
      have hgl := (Array.getElem?_eq_some_iff.1 HGC.out).1
      have z0 := Lib.cell_of_heap HGC.out 0
      simp only [List.getElem?_toArray, List.getElem?_cons_zero, List.getElem?_cons_succ] at z0
      have HG := Lib.hid (good_any (w := wr) (c := c') (o := 2) (Sl.on HRR.out.1 HBR.out) hrb HRR.out.2 hk1 hk4 (by omega) (by omega))
      go_wp2_with fail
      refine HG.out.mono ?_
      rintro e W5 ⟨s, B', c1', C', c2', rfl, t1, t2, t3, b5⟩
      have hgc5 := (b5.block hg hgl).trans HGC.out
      have hO5 := HO.out.below b5
      have hb5 := HBR.out.trans (b5.mono HBR.out.size)
      have hres := (hb5.block w.heap.size (by omega)).trans HX0.out
      have z0 := Lib.cell_of_heap hgc5 0
      have z1 := Lib.cell_of_heap hgc5 1
      have z2 := Lib.cell_of_heap hgc5 2
      have z3 := Lib.cell_of_heap hgc5 3
      have f2 := Lib.frozen_of_heap hgc5 2
      have f3 := Lib.frozen_of_heap hgc5 3
      have y0 := Lib.cell_of_heap hres 0
      have y1 := Lib.cell_of_heap hres 1
      have y2 := Lib.cell_of_heap hres 2
      have y3 := Lib.cell_of_heap hres 3
      have q0 := Lib.frozen_of_heap hres 0
      have q1 := Lib.frozen_of_heap hres 1
      have q2 := Lib.frozen_of_heap hres 2
      have q3 := Lib.frozen_of_heap hres 3
      simp only [List.getElem?_toArray, List.getElem?_cons_zero, List.getElem?_cons_succ] at z0 z1 z2 z3 y0 y1 y2 y3
      have hne : ¬ w.heap.size = hg := by have h9 := HHG.out; omega
      have hne' : ¬ hg = w.heap.size := by have h9 := HHG.out; omega
      have HO5 := Lib.hid hO5
      have HB5 := Lib.hid hb5
      have HRES := Lib.hid hres
      have HT := Lib.hid (And.intro t1 (And.intro t2 t3))
      clear hgc5 hO5 hb5 hres t1 t2 t3
      go_wp2
      obtain ⟨d1, d2, d3⟩ := hd_stored (g := hg) hne HRES.out (.slice B' s.nx.length c1') (.slice C' s.out.length c2') (.int .i64 (k : Int)) (.slice N 3 cN) (.slice B' s.nx.length c1') (.slice C' s.out.length c2')
      have d4 := hd_below (g := hg) (r := w.heap.size) (HB0.out.trans (HB5.out.mono HB0.out.size)) (by have h9 := HHG.out; omega) (Nat.le_refl _) (.slice B' s.nx.length c1') (.slice C' s.out.length c2') (.int .i64 (k : Int)) (.slice N 3 cN) (.slice B' s.nx.length c1') (.slice C' s.out.length c2')
      generalize ((((((W5.setCell ⟨hg, 2, none⟩ (.slice B' s.nx.length c1')).setCell ⟨hg, 3, none⟩ (.slice C' s.out.length c2')).setCell ⟨w.heap.size, 0, none⟩ (.int .i64 (k : Int))).setCell ⟨w.heap.size, 1, none⟩ (.slice N 3 cN)).setCell ⟨w.heap.size, 2, none⟩ (.slice B' s.nx.length c1')).setCell ⟨w.heap.size, 3, none⟩ (.slice C' s.out.length c2')) = W9 at *
      obtain ⟨t1, t2, t3⟩ := HT.out
      have hbs := HBR.out.size
      have hO9 := HO5.out.far (w' := W9) (by omega) fun q hq _ => d2 q (by have h9 := HHG.out; omega) (by omega)
      have hS9 := (t3.keep (w' := W9) fun p hp => World.cell?_of_block (d2 p.block (by have := hp.1; omega) (by have := hp.1; omega))).more (S' := fun b => w.heap.size ≤ b ∧ b < W9.heap.size) fun b hb' => ⟨by have := hb'.1; omega, by have := hb'.2; omega⟩
      refine ret_hd rfl rfl rfl d1 ⟨⟨k, labs, s⟩, N, cN, B', c1', C', c2', by rw [hdVal, HLE.out], ⟨by show (1 : Int) ≤ k; omega, fun s' hs' => (hall.out s' hs').1, t1, by show labs.length ≤ 100; rw [HLE.out]; omega, fun s' hs' => (hall.out s' hs').2, t2, by show (k : Int) ≤ 4; omega⟩, HLE.out, ⟨?_, ?_, hS9⟩, d4⟩
      · show SlP W9 _ 2 N labs.length (labs.flatMap sdC)
        rw [HLE.out]
        exact hO9.sl.more fun b hb' => ⟨by have := hb'.1; omega, hb'.2⟩
      · show Cap labs.length cN
        rw [HLE.out]
        exact hO9.le
end Go.Proofs.Ytbipdnnalhdoaaa
