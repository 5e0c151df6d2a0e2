/- The finder's path: the trees by which a side comes to a state. -/
import Derived.Test.YtbipdnnalhdoaaaHo
import Derived.Test.YtbipdnnalhdoaaaHm
namespace Go.Proofs.Ytbipdnnalhdoaaa
open Go.RowKit Go.Maps Go.WideMaps
attribute [local go_sem ↓] Go.wp_at_zero Go.wp_at_succ

theorem infoTr : (Try.prog.info? 38).map (fun i => (i.zero, i.size, i.bytes)) = some (some (.agg #[.int .i64 0, .slice none 0 0]), 2, 32) := by kernel_rfl
theorem rowTr : Row Try.prog 35 38 2 32 := by
  obtain ⟨i, hi, hz, h1, h2⟩ := info_parts infoTr
  exact ⟨Try.underlying35, ⟨i, _, hi, hz, h1, h2, rfl⟩, by decide⟩
theorem fld_srp (a b c : Value) (w : World) : (Instr.field 76 (.agg #[a, b, c]) 0).run Try.prog w = .ok (.agg #[a, b]) w := by kernel_rfl
/-- cells of trees are numbers and slices -/
theorem trs_shape {w : World} {S : Nat → Prop} : ∀ {l : List Tr} {ps : List (Value × Value)}, CsIsP w S (trsC l) (prC ps) → ps.length = l.length → ∀ p ∈ ps, ∃ a A n c, p = (.int .i64 a, .slice A n c)
  | [], ps, _, hl, p, hp => by
    have : ps = [] := by simpa using hl
    rw [this] at hp
    cases hp
  | t :: l, [], _, hl, p, hp => by cases hp
  | t :: l, q :: ps, h, hl, p, hp => by
    rw [trsC, trC_eq, prC] at h
    simp only [List.cons_append, List.nil_append, CsIsP] at h
    obtain ⟨v1, ys, e1, h1, v2, zs, e2, h2, h3⟩ := h
    injection e1 with e1 e1'
    rw [e2] at e1'
    injection e1' with e3 e4
    rcases List.mem_cons.1 hp with rfl | hp
    · obtain ⟨A, c, rfl, _⟩ := h2.isSl
      rw [h1.isInt] at e1
      exact ⟨_, A, _, c, Prod.ext e1 e3⟩
    · rw [← e4] at h3
      exact trs_shape h3 (by simpa using hl) p hp
theorem addC_eq {a b c : Nat} (h : c = addC a b) (hc : c < topC) : c = a + b := by
  unfold addC at h
  split at h
  · omega
  · exact h

theorem drew_heap (w : World) : w.drew.heap = w.heap := rfl
theorem OwnC.drew {w : World} {base z n c : Nat} {e : TypeId} {A : Option Addr} {cs : List Cl} (h : OwnC w base e z A n c cs) : OwnC w.drew base e z A n c cs := h.far (Nat.le_refl _) fun _ _ _ => rfl
theorem six_stored {w : World} {g : Nat} {a b c d e f : Value} {T : TypeId} (h : w.heap[g]? = some (.cells #[a, b, c, d, e, f] T (0, 0))) (v0 v1 v2 v3 v4 v5 : Value) :
    ((((((w.setCell ⟨g, 0, none⟩ v0).setCell ⟨g, 1, none⟩ v1).setCell ⟨g, 2, none⟩ v2).setCell ⟨g, 3, none⟩ v3).setCell ⟨g, 4, none⟩ v4).setCell ⟨g, 5, none⟩ v5).heap[g]? = some (.cells #[v0, v1, v2, v3, v4, v5] T (0, 0)) := by
  have h0 := heap_setCell_same w g 0 _ _ v0 h
  have h1 := heap_setCell_same _ g 1 _ _ v1 h0
  have h2 := heap_setCell_same _ g 2 _ _ v2 h1
  have h3 := heap_setCell_same _ g 3 _ _ v3 h2
  have h4 := heap_setCell_same _ g 4 _ _ v4 h3
  have h5 := heap_setCell_same _ g 5 _ _ v5 h4
  simpa using h5
theorem six_other {w : World} {g q : Nat} (hne : q ≠ g) (v0 v1 v2 v3 v4 v5 : Value) :
    ((((((w.setCell ⟨g, 0, none⟩ v0).setCell ⟨g, 1, none⟩ v1).setCell ⟨g, 2, none⟩ v2).setCell ⟨g, 3, none⟩ v3).setCell ⟨g, 4, none⟩ v4).setCell ⟨g, 5, none⟩ v5).heap[q]? = w.heap[q]? := by
  rw [heap_set_other (p := ⟨g, 5, none⟩) hne, heap_set_other (p := ⟨g, 4, none⟩) hne, heap_set_other (p := ⟨g, 3, none⟩) hne, heap_set_other (p := ⟨g, 2, none⟩) hne, heap_set_other (p := ⟨g, 1, none⟩) hne, heap_set_other (p := ⟨g, 0, none⟩) hne]
theorem six_size {w : World} {g : Nat} (v0 v1 v2 v3 v4 v5 : Value) :
    ((((((w.setCell ⟨g, 0, none⟩ v0).setCell ⟨g, 1, none⟩ v1).setCell ⟨g, 2, none⟩ v2).setCell ⟨g, 3, none⟩ v3).setCell ⟨g, 4, none⟩ v4).setCell ⟨g, 5, none⟩ v5).heap.size = w.heap.size := by simp only [size_set]
theorem six_below {w w' : World} {B g : Nat} (h : Below B w w') (hg : B ≤ g) (v0 v1 v2 v3 v4 v5 : Value) :
    Below B w ((((((w'.setCell ⟨g, 0, none⟩ v0).setCell ⟨g, 1, none⟩ v1).setCell ⟨g, 2, none⟩ v2).setCell ⟨g, 3, none⟩ v3).setCell ⟨g, 4, none⟩ v4).setCell ⟨g, 5, none⟩ v5) :=
  (((((h.setCell (p := ⟨g, 0, none⟩) hg v0).setCell (p := ⟨g, 1, none⟩) hg v1).setCell (p := ⟨g, 2, none⟩) hg v2).setCell (p := ⟨g, 3, none⟩) hg v3).setCell (p := ⟨g, 4, none⟩) hg v4).setCell (p := ⟨g, 5, none⟩) hg v5

theorem six_stored_drew {w : World} {g : Nat} {a b c d e f : Value} {T : TypeId} (h : w.heap[g]? = some (.cells #[a, b, c, d, e, f] T (0, 0))) (v0 v1 v2 v3 v4 v5 : Value) :
    ((((((w.setCell ⟨g, 0, none⟩ v0).setCell ⟨g, 1, none⟩ v1).setCell ⟨g, 2, none⟩ v2).setCell ⟨g, 3, none⟩ v3).setCell ⟨g, 4, none⟩ v4).setCell ⟨g, 5, none⟩ v5).drew.heap[g]? = some (.cells #[v0, v1, v2, v3, v4, v5] T (0, 0)) := by
  rw [drew_heap]; exact six_stored h v0 v1 v2 v3 v4 v5
theorem six_own_drew {w : World} {base z n c g : Nat} {e : TypeId} {A : Option Addr} {cs : List Cl} (h : OwnC w base e z A n c cs) (hg : g < base) (v0 v1 v2 v3 v4 v5 : Value) : OwnC ((((((w.setCell ⟨g, 0, none⟩ v0).setCell ⟨g, 1, none⟩ v1).setCell ⟨g, 2, none⟩ v2).setCell ⟨g, 3, none⟩ v3).setCell ⟨g, 4, none⟩ v4).setCell ⟨g, 5, none⟩ v5).drew base e z A n c cs :=
  OwnC.drew (h.far (by rw [six_size]; exact Nat.le_refl _) fun q hq _ => six_other (by omega) _ _ _ _ _ _)
theorem six_below_drew {w' w : World} {B g : Nat} (h : Below B w' w) (hg : B ≤ g) (v0 v1 v2 v3 v4 v5 : Value) : Below B w' ((((((w.setCell ⟨g, 0, none⟩ v0).setCell ⟨g, 1, none⟩ v1).setCell ⟨g, 2, none⟩ v2).setCell ⟨g, 3, none⟩ v3).setCell ⟨g, 4, none⟩ v4).setCell ⟨g, 5, none⟩ v5).drew := Below.drew (six_below h hg _ _ _ _ _ _)

/-- what path tells -/
def PathRet (M : Mc) (w : World) (n s cost : Nat) (e : Ending) (w' : World) : Prop := ∃ A c l, e = .returned (.slice A l.length c) ∧ Cap l.length c ∧ SlP w' (fun b => w.heap.size ≤ b ∧ b < w'.heap.size) 2 A l.length (trsC l) ∧
      thrT M n 0 l = some s ∧ wtTs l = cost ∧ Below w.heap.size w w'
/-- where path stands: at state s0 of side n, the trees behind it found -/
def PathAt (M : Mc) (f : FS) (w W : World) (n s cost : Nat) (k : Stp) (acc : List Tr) (A : Option Addr) (c : Nat) : Prop :=
  f.mar n k.st = some (k, true) ∧ thrT M n k.st acc.reverse = some s ∧ k.cost + wtTs acc = cost ∧ OwnC W (w.heap.size + 1) 38 2 A acc.length c (trsC acc) ∧
    W.heap[w.heap.size]? = some (.cells #[.int .i64 (k.num : Int), .int .i64 (k.st : Int), .int .i64 (k.cost : Int), .int .i64 k.frm, .int .i64 k.tree, .bool true] 96 (0, 0)) ∧ Below w.heap.size w W
theorem thrT_cons {M : Mc} {n s0 s v : Nat} {t : Tr} {l : List Tr} (h1 : stT M t = some v) (h2 : thrT M n (M.nx n s0 v) l = some s) : thrT M n s0 (t :: l) = some s := by
  rw [thrT, h1]; exact h2

set_option maxHeartbeats 4000000 in
set_option maxRecDepth 100000 in
theorem path_any {fb mm mf base : Nat} {mv : Value} {f : FS} {M : Mc} {own : FOwn} (hP : Paths M f) (hO : M.Ok) : ∀ (b : Nat), b ≤ 3000000000 → ∀ (w : World) (n s : Nat) (K : Stp), FIs w own base fb mm mf mv f → f.mar n s = some (K, true) → K.cost < b →
    Calls Try.prog 43 #[.pointer (some ⟨fb, 0, none⟩), .int .i64 (n : Int), .int .i64 (s : Int)] w (PathRet M w n s K.cost) := by
  intro b
  induction b with
  | zero => intro _ w n s K _ _ h; omega
  | succ b ih =>
  intro hb w n s K h hk hc
  have IH := Lib.hid (ih (by omega))
  have HP := Lib.hid hP
  clear ih hP
  obtain ⟨p1, p2, p3, p4, p5, p6⟩ := HP.out.mks n s K hk
  have hnb : n ≤ 1000000000000 := by have := hO.fewL; omega
  have hsb : s ≤ 1000000000000 := by have := hO.fewS n p3; omega
  obtain ⟨l, hkey⟩ := keyPl hnb hsb
  obtain ⟨n1, hm1⟩ := h.mks
  have hlk := hm1.look placeK Try.underlying82 (zMk w) hkey false
  rw [mkF_at, hk] at hlk
  have hlk' : (Instr.lookup 82 (.map (some mm)) (.agg #[.int .i64 (n : Int), .int .i64 (s : Int)]) false).run Try.prog w = .ok (.agg #[.int .i64 (K.num : Int), .int .i64 (K.st : Int), .int .i64 (K.cost : Int), .int .i64 K.frm, .int .i64 K.tree, .bool true]) w := hlk
  obtain ⟨A0, c0, AM0, cM0, AT0, cT0, MV0, b1, _⟩ := h.blk
  have k2 := Lib.cell_of_heap b1 2
  simp only [List.getElem?_toArray, List.getElem?_cons_zero, List.getElem?_cons_succ] at k2
  have H0 := Lib.hid h
  have HK := Lib.hid (And.intro hk (And.intro p1 p2))
  have hx := heap_alloc_new w (.cells #[.int .i64 (K.num : Int), .int .i64 (K.st : Int), .int .i64 (K.cost : Int), .int .i64 K.frm, .int .i64 K.tree, .bool true] 96)
  have hB1 := (Below.refl _ w).alloc (Nat.le_refl _) (.cells #[.int .i64 (K.num : Int), .int .i64 (K.st : Int), .int .i64 (K.cost : Int), .int .i64 K.frm, .int .i64 K.tree, .bool true] 96)
  have hs1 : (w.alloc (.cells #[.int .i64 (K.num : Int), .int .i64 (K.st : Int), .int .i64 (K.cost : Int), .int .i64 K.frm, .int .i64 K.tree, .bool true] 96)).heap.size = w.heap.size + 1 := World.size_alloc _ _
  clear h hk hm1 hlk hkey b1 p6 p1 p2
  go_enter Try.func43, Try.ntmps43
  go_wp2
  generalize w.alloc (.cells #[.int .i64 (K.num : Int), .int .i64 (K.st : Int), .int .i64 (K.cost : Int), .int .i64 K.frm, .int .i64 K.tree, .bool true] 96) = W1 at *
  clear hlk' k2
  go_loopg [7] K.cost (fun gk s7 wr => ∃ (k : Stp) (acc : List Tr) (A : Option Addr) (c : Nat), gk = k.cost ∧ s7 = .slice A acc.length c ∧ PathAt M f w wr n s K.cost k acc A c)
  case atStart => exact ⟨K, [], none, 0, rfl, rfl, by rw [HK.out.2.2]; exact HK.out.1, by rw [HK.out.2.2]; rfl, by simp [wtTs], OwnC.nil _ _ _ _, hx, hB1⟩
  case round =>
    obtain ⟨k, acc, A, c, rfl, rfl, hat⟩ := hrel
    obtain ⟨a1, a2, a3, a4, a5, a6⟩ := hat
    obtain ⟨q1, q2, q3, q4, q5, q6⟩ := HP.out.mks n k.st k a1
    have hF := H0.out.below a6 (Nat.le_refl _)
    rcases q6 with ⟨r1, r2, r3⟩ | ⟨s0, v, k0, src, r1, r2, r3, r4, r5, r6⟩
    · rw [r3] at a5
      have c4 := Lib.cell_of_heap a5 4
      simp only [List.getElem?_toArray, List.getElem?_cons_zero, List.getElem?_cons_succ] at c4
      have hwl : acc.length ≤ K.cost := Nat.le_trans (wtTs_ge acc) (by omega)
      obtain ⟨xs, o1, o2⟩ := a4
      obtain ⟨ps, rfl, hpl, o3⟩ := trs_turn o2
      have hsh := trs_shape o2 hpl
      have hsh' : ∀ p ∈ ps, ∃ a A n c, p = (Value.int .i64 a, .slice A n c) := hsh
      have HR := Lib.hid (reverse_any o1 (by omega) hsh')
      have HA := Lib.hid (And.intro a1 (And.intro a2 (And.intro a3 (And.intro a6 (And.intro o1 (And.intro o2 (And.intro o3 (And.intro r1 r2))))))))
      clear a1 a2 a3 a5 a6 o1 o2 o3 hsh hsh' r1 r2 r3 q1 q2 hF hx hB1
      go_wp2_with fail
      refine HR.out.mono ?_
      rintro e W2 ⟨rfl, t1, t2⟩
      have HT := Lib.hid (And.intro t1 t2)
      clear t1 t2
      go_wp2
      obtain ⟨a1, a2, a3, a6, o1, o2, o3, r1, r2⟩ := HA.out
      obtain ⟨t1, t2⟩ := HT.out
      have hB2 : Below w.heap.size w W2 := a6.grown t2 a6.size (fun q hq => by have := (o1.lt q hq).1; omega)
      have hO2 : OwnC W2 (w.heap.size + 1) 38 2 A acc.length c (trsC acc.reverse) :=
        ⟨_, t1, (o3.keep fun p hp => World.cell?_of_block (t2.block p.block hp.2.1 (fun e => hp.2.2 e.symm))).more fun b hb' => ⟨hb'.1, Nat.lt_of_lt_of_le hb'.2.1 t2.size, hb'.2.2⟩⟩
      have hle := hO2.le
      have HRET := Lib.hid (show PathRet M w n s K.cost (.returned (.slice A acc.length c)) W2 from
        ⟨A, c, acc.reverse, by rw [List.length_reverse], by rw [List.length_reverse]; exact hle, by rw [List.length_reverse]; exact hO2.sl.more fun b hb' => ⟨by omega, hb'.2⟩, by rw [r1] at a2; exact a2, by rw [wtTs_rev]; omega, hB2⟩)
      clear a1 a2 a3 a6 o1 o2 o3 r1 r2 t1 t2 hB2 hO2
      go_ret
      exact HRET.out
    · obtain ⟨g1, g2, k2, g3, g4⟩ := HP.out.fn v src r4
      have hsl : src.num < M.L := g1
      rw [q1] at r3 r6
      have hk0 := (HP.out.mks n s0 k0 r3)
      have hk2 := (HP.out.mks src.num src.st k2 g3)
      have htop : k.cost < topC := by unfold topC; omega
      have hge := addC_ge' (a := k0.cost) (b := src.cost) (by rw [g4]; exact addC_le _ _)
      have e1 : src.cost = k2.cost + 1 := addC_eq g4 (by omega)
      have e2 : k.cost = k0.cost + src.cost := addC_eq r5 htop
      have hvb : v ≤ 1000000000000 := by rw [← g2]; have := hO.out _ _ g1 hk2.2.2.2.1; have := hO.fewK; omega
      have hnb2 : src.num ≤ 1000000000000 := by have := hO.fewL; omega
      have hsb0 : s0 ≤ 1000000000000 := by have := hO.fewS n p3; have := hk0.2.2.2.1; omega
      rw [r1, r2] at a5
      have HE := Lib.hid (And.intro e1 e2)
      clear e1 e2 g4 r5
      obtain ⟨A1, c1, AM1, cM1, AT1, cT1, MV1, b1, _⟩ := hF.blk
      obtain ⟨m1, hm1⟩ := hF.fns
      have hlk := hm1.drew.look intK Try.underlying83 (zSr wr.drew) (keyIn hvb) false
      rw [fnF_at, r4] at hlk
      have hlk' : (Instr.lookup 83 (.map (some mf)) (.int .i64 (v : Int)) false).run Try.prog wr.drew = .ok (.agg #[.int .i64 (src.num : Int), .int .i64 (src.st : Int), .int .i64 (src.cost : Int)]) wr.drew := hlk
      have HLK := Lib.hid (show ∀ W : World, W.heap[mf]? = wr.heap[mf]? → (Instr.lookup 83 (.map (some mf)) (.int .i64 (v : Int)) false).run Try.prog W = .ok (.agg #[.int .i64 (src.num : Int), .int .i64 (src.st : Int), .int .i64 (src.cost : Int)]) W from fun W hW => by
        have := (hm1.block hW).look intK Try.underlying83 (zSr W) (keyIn hvb) false
        rw [fnF_at, r4] at this
        exact this)
      have hmfl := hm1.lt
      have x4 := Lib.cell_of_heap a5 4
      have x5 := Lib.cell_of_heap b1 5
      simp only [List.getElem?_toArray, List.getElem?_cons_zero, List.getElem?_cons_succ] at x4 x5
      have hwl := (Array.getElem?_eq_some_iff.1 a5).1
      have HA := Lib.hid (And.intro a1 (And.intro a2 (And.intro a3 (And.intro a4 (And.intro a5 a6)))))
      have HF := Lib.hid hF
      have HG := Lib.hid (And.intro g1 (And.intro g2 (And.intro g3 (And.intro r3 (And.intro r6 (And.intro hk0.1 hk0.2.1))))))
      clear a1 a2 a3 a4 a5 a6 hF b1 hm1 hlk r1 r2 r3 r4 r6 g1 g2 g3 hk0 hk2 q1 q2 hx hB1
      have n4 := World.new_ne wr.drew ⟨w.heap.size, 4, none⟩ x4
      have n5 := World.new_ne wr.drew ⟨fb, 5, none⟩ x5
      go_upto_region 4 with fail
      go_cut [9] (fun s9 wx => ∃ g, s9 = .pointer (some ⟨g, 0, none⟩) ∧ wr.heap.size ≤ g ∧ wx.heap[g]? = some (.cells #[.int .i64 (src.num : Int), .int .i64 (src.st : Int), .int .i64 (src.cost : Int)] 76 (0, 0)) ∧ Below wr.heap.size wr wx)
      case first =>
        go_region_held3 (fun w' => w'.cell? ⟨w.heap.size, 4, none⟩ = some (.int .i64 (v : Int)) ∧ w'.cell? ⟨fb, 5, none⟩ = some (.map (some mf)) ∧ (Instr.lookup 83 (.map (some mf)) (.int .i64 (v : Int)) false).run Try.prog w' = .ok (.agg #[.int .i64 (src.num : Int), .int .i64 (src.st : Int), .int .i64 (src.cost : Int)]) w')
          (first
            | exact ⟨x4, x5, hlk'⟩
            | (refine ⟨?_, ?_, HLK.out _ (Below.heap_alloc wr _ mf hmfl)⟩ <;> go_keep)
            | go_keep)
          (fail)
        all_goals
          go_wp2_with fail
          go_meet
          exact ⟨_, rfl, Nat.le_refl _, heap_alloc_new wr _, Below.drew ((Below.refl _ wr).alloc (Nat.le_refl _) _)⟩
      case rest =>
        obtain ⟨g, rfl, hgl, hg, hb4⟩ := hcut
        rename World => W4
        obtain ⟨a1, a2, a3, a4, a5, a6⟩ := HA.out
        obtain ⟨xs, o1, o2⟩ := a4
        have hs4 := hb4.size
        have hgl4 := (Array.getElem?_eq_some_iff.1 hg).1
        have HCALL := Lib.hid (IH.out W4.drew src.num src.st k2 (HF.out.below (Below.drew hb4) (Nat.le_refl _)) HG.out.2.2.1 (by have := HE.out.1; have := HE.out.2; omega))
        have y0 := Lib.cell_of_heap hg 0
        have y1 := Lib.cell_of_heap hg 1
        simp only [List.getElem?_toArray, List.getElem?_cons_zero, List.getElem?_cons_succ] at y0 y1
        have hacc : acc.length ≤ 3000000000 := by have := wtTs_ge acc; omega
        have hrow : ∀ q, (Value.slice A acc.length c).ownBlock = some q → w.heap.size < q ∧ q < wr.heap.size := fun q hq => ⟨by have := (o1.lt q hq).1; omega, (o1.lt q hq).2⟩
        have HROW := Lib.hid hrow
        have HO := Lib.hid (And.intro o1 o2)
        have HB4 := Lib.hid hb4
        have hng : some g ≠ (Value.slice A acc.length c).ownBlock := fun e => by have := (HROW.out g e.symm).2; omega
        clear a1 a2 a3 a5 a6 o1 o2 hg hb4 hrow hlk' x4 x5 n4 n5
        go_upto_region 5 with fail
        go_cut [7] (fun s7 wx => ∃ A' c' l2, s7 = .slice A' (acc.length + 1) c' ∧ OwnC wx (w.heap.size + 1) 38 2 A' (acc.length + 1) c' (trsC (acc ++ [.mk src.num l2])) ∧ thrT M src.num 0 l2 = some src.st ∧ wtTs l2 = k2.cost ∧ wx.heap[w.heap.size]? = wr.heap[w.heap.size]? ∧ Below w.heap.size w wx)
        case first =>
          go_region_held3 (fun w' => w'.cell? ⟨g, 0, none⟩ = some (.int .i64 (src.num : Int)) ∧ w'.cell? ⟨g, 1, none⟩ = some (.int .i64 (src.st : Int)))
            (first
              | exact ⟨y0, y1⟩
              | exact ⟨z0, z1⟩
              | exact ⟨(World.cell?_of_block (a := ⟨g, 0, none⟩) (Below.heap_alloc W5 _ g hg5)).trans z0, (World.cell?_of_block (a := ⟨g, 1, none⟩) (Below.heap_alloc W5 _ g hg5)).trans z1⟩
              | exact ⟨(grown_cell hg7 (a := ⟨g, 0, none⟩) (by simp; omega) hng).1.trans ((World.cell?_of_block (a := ⟨g, 0, none⟩) (Below.heap_alloc W5 _ g hg5)).trans z0), (grown_cell hg7 (a := ⟨g, 1, none⟩) (by simp; omega) hng).1.trans ((World.cell?_of_block (a := ⟨g, 1, none⟩) (Below.heap_alloc W5 _ g hg5)).trans z1)⟩
              | go_keep)
            (first
              | (go_at_call 43; refine HCALL.out.mono ?_; rintro e W5 ⟨A2, c2, l2, rfl, t1, t2, t3, t4, t5⟩; have z0 := (t5.cell (p := ⟨g, 0, none⟩) hgl4).trans y0; have z1 := (t5.cell (p := ⟨g, 1, none⟩) hgl4).trans y1; have hg5 := Nat.lt_of_lt_of_le hgl4 t5.size; have b5 := HB4.out.trans ((Below.drew (Below.refl _ W4)).trans t5 |>.mono hs4); have o5 := own_below HO.out.1 b5 (Nat.le_refl _))
              | (refine step_push (by rfl) _ _ _ (by rfl) (w.heap.size + 1) rowTr A acc.length c _ (by rfl) (o5.alloc _) W5.heap.size 1 _ (by rfl) (heap_alloc_new W5 _) (by rfl) (by simp [Value.oneCell']) (by unfold maxLen; omega) (by omega) (by simp; omega) ?_; intro A7 c7 W7 hc7 ho7 hg7 hat7))
          all_goals
            go_wp2_with fail
            go_meet
            have hba := (Below.refl _ W5).alloc (Nat.le_refl _) (.cells #[.int .i64 (src.num : Int), .slice A2 l2.length c2] 38)
            have h7 := OwnC.push (apart_below (apart_below HO.out.2 b5) hba) ho7 hg7 hat7 (CsIsP.cons (CIsP.int _ _ _) (CsIsP.cons (CIsP.sl ((SlP.keep t2 fun p hp => hba.cell hp.2).more fun q hq => ⟨by have h9 := hq.1; change W4.heap.size ≤ q at h9; omega, by have := hba.size; omega, fun e => by have := (HROW.out q e).2; have h9 := hq.1; change W4.heap.size ≤ q at h9; omega⟩) t1) (CsIsP.nil _ _)))
            have a6 := HA.out.2.2.2.2.2
            have hs6 := a6.size
            have hs5 := b5.size
            refine ⟨A7, c7, l2, rfl, ?_, t3, t4, ?_, ?_⟩
            · rw [trsC_append, trsC, trC_eq, trsC]
              exact h7
            · exact (hg7.block w.heap.size (by simp; omega) (fun e => by have := (HROW.out _ e.symm).1; omega)).trans ((hba.block w.heap.size (by omega)).trans (b5.block w.heap.size hwl))
            · exact ((a6.trans (b5.mono hs6)).alloc (by omega) _).grown hg7 (by simp; omega) (fun q hq => by have := (HROW.out q hq).1; omega)
        case rest =>
          obtain ⟨A', c', l2, rfl, u1, u2, u3, u4, u5⟩ := hcut
          rename World => W7
          obtain ⟨a1, a2, a3, a4, a5, a6⟩ := HA.out
          have hF7 := H0.out.below u5 (Nat.le_refl _)
          have hm7 := u4.trans a5
          obtain ⟨A8, c8, AM8, cM8, AT8, cT8, MV8, b1, _⟩ := hF7.blk
          obtain ⟨m1, hmm⟩ := hF7.mks
          obtain ⟨l8, hkey8⟩ := keyPl hnb hsb0
          have hlk := hmm.drew.look placeK Try.underlying82 (zMk W7.drew) hkey8 false
          rw [mkF_at, HG.out.2.2.2.1] at hlk
          have hlk' : (Instr.lookup 82 (.map (some mm)) (.agg #[.int .i64 (n : Int), .int .i64 (s0 : Int)]) false).run Try.prog W7.drew = .ok (.agg #[.int .i64 (k0.num : Int), .int .i64 (k0.st : Int), .int .i64 (k0.cost : Int), .int .i64 k0.frm, .int .i64 k0.tree, .bool true]) W7.drew := hlk
          have x0 := Lib.cell_of_heap hm7 0
          have x1 := Lib.cell_of_heap hm7 1
          have x2 := Lib.cell_of_heap hm7 2
          have x3 := Lib.cell_of_heap hm7 3
          have x4 := Lib.cell_of_heap hm7 4
          have x5 := Lib.cell_of_heap hm7 5
          have k2' := Lib.cell_of_heap b1 2
          have z0 := Lib.frozen_of_heap hm7 0
          have z1 := Lib.frozen_of_heap hm7 1
          have z2 := Lib.frozen_of_heap hm7 2
          have z3 := Lib.frozen_of_heap hm7 3
          have z4 := Lib.frozen_of_heap hm7 4
          have z5 := Lib.frozen_of_heap hm7 5
          simp only [List.getElem?_toArray, List.getElem?_cons_zero, List.getElem?_cons_succ] at x0 x1 x2 x3 x4 x5 k2'
          have HM7 := Lib.hid hm7
          have HU := Lib.hid (And.intro u1 (And.intro u2 (And.intro u3 u5)))
          clear u1 u2 u3 u4 u5 a1 a2 a3 a4 a5 a6 hF7 hm7 b1 hmm hkey8 hlk
          go_wp2
          go_region
          all_goals
            go_wp2
            go_roundg k0.cost
            case measure => have := HE.out.1; have := HE.out.2; omega
            case rel =>
              obtain ⟨g1, g2, g3, g4, g5, g6, g7⟩ := HG.out
              obtain ⟨u1, u2, u3, u5⟩ := HU.out
              obtain ⟨a1, a2, a3, _⟩ := HA.out
              refine ⟨k0, acc ++ [.mk src.num l2], A', c', rfl, by rw [List.length_append]; rfl, by rw [g7]; exact g4, ?_, ?_, ?_, six_stored_drew HM7.out _ _ _ _ _ _, six_below_drew u5 (Nat.le_refl _) _ _ _ _ _ _⟩
              · rw [List.reverse_append, g7]
                refine thrT_cons (v := v) ?_ (by rw [g5]; exact a2)
                rw [stT_mk M g1, u2, Option.map_some, g2]
              · have e1 := HE.out.1
                have e2 := HE.out.2
                rw [wtTs_append, wtTs, wtTs, wtT]
                omega
              · rw [List.length_append]
                exact six_own_drew u1 (by omega) _ _ _ _ _ _
end Go.Proofs.Ytbipdnnalhdoaaa
