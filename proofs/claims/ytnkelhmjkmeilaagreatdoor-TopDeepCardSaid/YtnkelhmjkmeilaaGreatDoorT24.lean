/- The finder's beginning. The finder's path: the trees by which a side comes to a state. least: trees that a machine accepts, such as weigh the least. Accepts of the program; State, Accepts of the document. -/
import Derived.Test.YtnkelhmjkmeilaaGreatDoorT23
import Derived.Test.YtnkelhmjkmeilaaGreatDoorT21
import Derived.Test.YtnkelhmjkmeilaaGreatDoorT20
section
namespace Go.Proofs.YtnkelhmjkmeilaaGreatDoor.H
open Go.RowKit Go.Maps Go.WideMaps
attribute [local go_sem ↓] Go.wp_at_zero Go.wp_at_succ
theorem FIs.made {w w4 : World} {N mm fb mf : Nat} {mv : Value} (hw : w.heap.size ≤ mm) (h1 : mm < w4.heap.size) (hmm : w4.heap[mm]? = some (.map #[] 0)) (hmf : w4.heap[mf]? = some (.map #[] 0)) (hw2 : w.heap.size ≤ mf) (hne : mm ≠ mf)
    {g : Nat} (hr : w4.ownsRow w.heap.size 111 1 (.slice (some ⟨g, 0, none⟩) N N) N (List.replicate N (.slice none 0 0))) (hfb : w4.heap[fb]? = some (.cells #[mv, .slice none 0 0, .map (some mm), .slice (some ⟨g, 0, none⟩) N N, .slice none 0 0, .map (some mf)] 244 (0, 0)))
    (hg1 : g ≠ fb) (hg2 : g ≠ mm) (hg3 : g ≠ mf) (hfm : fb ≠ mm) (hff : fb ≠ mf) (hw3 : w.heap.size ≤ fb) (hw5 : w.heap.size ≤ g) :
    FIs w4 (fun q => if q = fb then some .fin else if q = mm then some .mkm else if q = mf then some .fnm else if q = g then some .metr else none) w.heap.size fb mm mf mv (fs0 N) := by
  have lf := (Array.getElem?_eq_some_iff.1 hmf).1
  have lb := (Array.getElem?_eq_some_iff.1 hfb).1
  have lg := hr.lt g rfl
  have hnone : ∀ (e : TypeId) (z : Nat) (xs : List Value), xs = [] → w4.ownsRow w.heap.size e z (.slice none 0 0) 0 xs := fun e z xs hx => ⟨by rw [hx]; simp, .inl ⟨rfl, rfl⟩⟩
  refine ⟨fun q r hq => ?_, by simp, by simp [Ne.symm hfm], by simp [Ne.symm hff, Ne.symm hne], ⟨none, 0, some ⟨g, 0, none⟩, N, none, 0, List.replicate N (.slice none 0 0), ?_, ⟨hnone _ _ _ rfl, fun q hq => by cases hq⟩, ⟨?_, fun q hq => ?_⟩, fun i hi => ?_, ⟨hnone _ _ _ rfl, fun q hq => by cases hq⟩⟩, ⟨0, ?_⟩, ⟨0, ?_⟩⟩
  · split at hq
    · rename_i e; subst e; exact ⟨hw3, lb⟩
    · split at hq
      · rename_i e; subst e; exact ⟨hw, h1⟩
      · split at hq
        · rename_i e; subst e; exact ⟨hw2, lf⟩
        · split at hq
          · rename_i e; subst e; exact lg
          · cases hq
  · simpa [fs0] using hfb
  · simpa [fs0] using hr
  · have hq' : q = g := by
      simp only [Value.ownBlock] at hq
      injection hq with hq
      exact hq.symm
    subst hq'
    simp [hg1, hg2, hg3]
  · have hi' : i < N := by simpa [fs0] using hi
    have hz : (fs0 N).met[i].length = 0 := by simp [fs0]
    have hz' : (fs0 N).met[i] = [] := by simp [fs0]
    refine ⟨none, 0, ?_, ?_, fun q hq => by cases hq⟩
    · rw [hz]; simp [hi']
    · rw [hz', List.length_nil]
      exact hnone _ _ _ rfl
  · have hf : mkF (fs0 N).mar = fun _ => none := by
      funext v
      unfold mkF fs0
      split
      · split
        · split <;> rfl
        · rfl
      · rfl
    rw [hf]
    exact ⟨#[], 0, hmm, by simp, by simp, by simp, by simp, by simp⟩
  · have hf : fnF (fs0 N).fnd = fun _ => none := by
      funext v
      unfold fnF fs0
      split
      · split <;> rfl
      · rfl
    rw [hf]
    exact ⟨#[], 0, hmf, by simp, by simp, by simp, by simp, by simp⟩
theorem made_nils (N : Nat) : (madeCells #[Value.slice none 0 0] N).toList = List.replicate N (.slice none 0 0) := by
  apply List.ext_getElem?
  intro i
  by_cases hi : i < N
  · simp [madeCells, hi, Nat.mod_one]
  · simp [madeCells, hi, Nat.mod_one]
set_option maxHeartbeats 2000000 in
set_option maxRecDepth 100000 in
theorem begin_any {w : World} {N : Nat} (T : TypeId) (v : Value) (M : Mc) (h0 : 0 < N) (hN : N ≤ 1000) :
    Calls Tryz.prog 110 #[.iface T v, .int .i64 (N : Int)] w fun e w' => ∃ fb mm mf own f, e = .returned (.pointer (some ⟨fb, 0, none⟩)) ∧ FIs w' own w.heap.size fb mm mf (.iface T v) f ∧ FInv M N N 0 f (fun _ _ _ => False) (fun _ _ => False) ∧
      Heap f.q ∧ f.q.length ≤ N ∧ (∀ n s k, f.mar n s ≠ some (k, true)) ∧ Below w.heap.size w w' := by
  have hmk := @run_makeMap Tryz.prog
  obtain ⟨ind, hind, hzd, hsd, hbd⟩ := info_parts infoSl
  have hma := heap_alloc_new w (.map #[] 0)
  have hbl := (Below.refl _ w).alloc (Nat.le_refl _) (.map #[] 0)
  have hs1 : (w.alloc (.map #[] 0)).heap.size = w.heap.size + 1 := World.size_alloc _ _
  go_enter Tryz.func110, Tryz.ntmps110
  go_upto_region 2 with (at_make; go_must (refine wpList_make_full _ rfl _ _ 110 rfl w.heap.size 111 ind _ 1 Tryz.underlying110 hind hzd hsd .i64 .i64 _ _ N rfl rfl rfl rfl (by rw [hbd]; omega) (by unfold maxLen; omega) (by omega) ?_))
  intro W2 hown2 hg2
  rw [made_nils] at hown2
  have hs2 := hg2.size
  rw [hs1] at hs2
  have hmm2 := (hg2.block w.heap.size (by omega) (by simp)).trans hma
  have hb2 := hbl.grown hg2 (by omega) (fun q hq => by cases hq)
  have hlg : w.heap.size + 1 < W2.heap.size := (hown2.lt (w.heap.size + 1) rfl).2
  have hma3 := heap_alloc_new W2 (.map #[] 0)
  have hal3 := fun k hk => Below.heap_alloc W2 (.map #[] 0) k hk
  have hs3 : (W2.alloc (.map #[] 0)).heap.size = W2.heap.size + 1 := World.size_alloc _ _
  have hown3 := hown2.alloc (.map #[] 0)
  have hb3 := hb2.alloc (by omega) (.map #[] 0)
  have H2 := Lib.hid (And.intro hown2 hg2)
  clear hown2 hg2 hma hbl hs1
  go_upto_region 2 with fail
  generalize W2.alloc (.map #[] 0) = W3 at *
  have hx := heap_alloc_new W3 (.cells #[.iface T v, .slice none 0 0, .map (some w.heap.size), .slice (some ⟨w.heap.size + 1, 0, none⟩) N N, .slice none 0 0, .map (some W2.heap.size)] 244)
  have hal := fun k hk => Below.heap_alloc W3 (.cells #[.iface T v, .slice none 0 0, .map (some w.heap.size), .slice (some ⟨w.heap.size + 1, 0, none⟩) N N, .slice none 0 0, .map (some W2.heap.size)] 244) k hk
  have hown4 := hown3.alloc (.cells #[.iface T v, .slice none 0 0, .map (some w.heap.size), .slice (some ⟨w.heap.size + 1, 0, none⟩) N N, .slice none 0 0, .map (some W2.heap.size)] 244)
  have hb4 := hb3.alloc (by omega) (.cells #[.iface T v, .slice none 0 0, .map (some w.heap.size), .slice (some ⟨w.heap.size + 1, 0, none⟩) N N, .slice none 0 0, .map (some W2.heap.size)] 244)
  have hs4 : (W3.alloc (.cells #[.iface T v, .slice none 0 0, .map (some w.heap.size), .slice (some ⟨w.heap.size + 1, 0, none⟩) N N, .slice none 0 0, .map (some W2.heap.size)] 244)).heap.size = W3.heap.size + 1 := World.size_alloc _ _
  have hF := FIs.made (w := w) (fb := W3.heap.size) (Nat.le_refl _) (by omega) ((hal w.heap.size (by omega)).trans ((hal3 w.heap.size (by omega)).trans hmm2)) ((hal W2.heap.size (by omega)).trans hma3) (by omega) (by omega) hown4 hx (by omega) (by omega) (by omega) (by omega) (by omega) (by omega) (by omega)
  rw [hs3] at hF
  generalize W3.alloc (.cells #[.iface T v, .slice none 0 0, .map (some w.heap.size), .slice (some ⟨w.heap.size + 1, 0, none⟩) N N, .slice none 0 0, .map (some W2.heap.size)] 244) = W4 at *
  have HF := Lib.hid hF
  have HB := Lib.hid hb4
  have hlo : ∀ q r, (fun q => if q = W2.heap.size + 1 then some FR.fin else if q = w.heap.size then some .mkm else if q = W2.heap.size then some .fnm else if q = w.heap.size + 1 then some .metr else none) q = some r → w.heap.size ≤ q := fun q r hq => (hF.lt q r hq).1
  generalize (fun q => if q = W2.heap.size + 1 then some FR.fin else if q = w.heap.size then some .mkm else if q = W2.heap.size then some .fnm else if q = w.heap.size + 1 then some .metr else none) = own0 at *
  have HLO := Lib.hid hlo
  clear hx hal hown4 hown3 hb3 hb4 hF hlo hma3 hal3 hmm2 hb2 hmk H2
  generalize hfb : W2.heap.size + 1 = fb at *
  go_wp2
  go_loopw [15] (fun iv wr => ∃ (J : Nat) (own1 : FOwn) (f1 : FS), iv = .int .i64 J ∧ J ≤ N ∧ FIs wr own1 w.heap.size fb w.heap.size W2.heap.size (.iface T v) f1 ∧ FInv M N J 0 f1 (fun _ _ _ => False) (fun _ _ => False) ∧ Hid (Heap f1.q ∧ f1.q.length ≤ J ∧ ∀ n s k, f1.mar n s ≠ some (k, true)) ∧ FStep W4 wr own0 own1) (fun iv _ => N - (intOf iv).toNat)
  case atStart => exact ⟨0, own0, fs0 N, rfl, Nat.zero_le _, HF.out, FInv.zero M N, ⟨fun i hi hin => by simp [fs0] at hin, Nat.zero_le _, fun n s k h => by cases h⟩, FStep.refl _ _⟩
  case round =>
    obtain ⟨J, own1, f1, rfl, hJ, hF1, hI1, hq1, hS1⟩ := hrel
    by_cases hlt : J < N
    · have HP := Lib.hid (put_any hF1 hq1.out.1 (by have := hq1.out.2.1; omega) ⟨J, 0, 0, -1, -1⟩ (by show J ≤ _; omega) (Nat.zero_le _))
      have HI1 := Lib.hid hI1
      have HS1 := Lib.hid hS1
      have hltI : (J : Int) < (N : Int) := by omega
      clear hF1 hI1 hS1
      go_wp2_with fail
      refine HP.out.mono ?_
      rintro e W5 ⟨rfl, own2, f2, hP, hF2, hS2, hU2⟩
      have hI2 := HI1.out.begin hlt hP
      have hg := put_grows hP
      have HF2 := Lib.hid hF2
      have HI2 := Lib.hid hI2
      have HQ2 := Lib.hid (show Heap f2.q ∧ f2.q.length ≤ J + 1 ∧ ∀ n s k, f2.mar n s ≠ some (k, true) from ⟨hg.2.2.2.2.2.1 hq1.out.1, by have := hg.2.2.2.2.1; have := hq1.out.2.1; omega, fun n s k h => hq1.out.2.2 n s k (hg.2.2.2.2.2.2 n s k h)⟩)
      have HS2 := Lib.hid (HS1.out.trans hS2)
      clear hP hF2 hS2 hU2 hI2 hg
      go_wp2
      go_roundw
      case rel => exact ⟨J + 1, own2, f2, by go_num, by omega, HF2.out, HI2.out, HQ2.out, HS2.out⟩
      case measure => simp [intOf]; omega
    · obtain rfl : J = N := by omega
      have HF1 := Lib.hid hF1
      have HI1 := Lib.hid hI1
      have HB5 := Lib.hid (hS1.below HB.out (by omega) HLO.out)
      clear hF1 hI1 hS1
      go_wp2
      go_ret
      exact ⟨fb, _, _, own1, f1, rfl, HF1.out, HI1.out, hq1.out.1, hq1.out.2.1, hq1.out.2.2, HB5.out⟩
end Go.Proofs.YtnkelhmjkmeilaaGreatDoor.H
end
section
namespace Go.Proofs.YtnkelhmjkmeilaaGreatDoor.H
open Go.RowKit Go.Maps Go.WideMaps
attribute [local go_sem ↓] Go.wp_at_zero Go.wp_at_succ
theorem infoTr : (Tryz.prog.info? 157).map (fun i => (i.zero, i.size, i.bytes)) = some (some (.agg #[.int .i64 0, .slice none 0 0]), 2, 32) := by kernel_rfl
theorem rowTr : Row Tryz.prog 106 157 2 32 := by
  obtain ⟨i, hi, hz, h1, h2⟩ := info_parts infoTr
  exact ⟨Tryz.underlying106, ⟨i, _, hi, hz, h1, h2, rfl⟩, by decide⟩
theorem trs_shape {w : World} {S : Nat → Prop} : ∀ {l : List Tr} {ps : List (Value × Value)}, CsIsP w S (trsC l) (prC ps) → ps.length = l.length → ∀ p ∈ ps, ∃ a A n c, p = (.int .i64 a, .slice A n c)
  | [], ps, _, hl, p, hp => by
    have : ps = [] := by simpa using hl
    rw [this] at hp
    cases hp
  | t :: l, [], _, hl, p, hp => by cases hp
  | t :: l, q :: ps, h, hl, p, hp => by
    rw [trsC, trC_eq, prC] at h
    simp only [List.cons_append, List.nil_append, CsIsP] at h
    obtain ⟨v1, ys, e1, h1, v2, zs, e2, h2, h3⟩ := h
    injection e1 with e1 e1'
    rw [e2] at e1'
    injection e1' with e3 e4
    rcases List.mem_cons.1 hp with rfl | hp
    · obtain ⟨A, c, rfl, _⟩ := h2.isSl
      rw [h1.isInt] at e1
      exact ⟨_, A, _, c, Prod.ext e1 e3⟩
    · rw [← e4] at h3
      exact trs_shape h3 (by simpa using hl) p hp
theorem addC_eq {a b c : Nat} (h : c = addC a b) (hc : c < topC) : c = a + b := by
  unfold addC at h
  split at h
  · omega
  · exact h
theorem drew_heap (w : World) : w.drew.heap = w.heap := rfl
theorem OwnC.drew {w : World} {base z n c : Nat} {e : TypeId} {A : Option Addr} {cs : List Cl} (h : OwnC w base e z A n c cs) : OwnC w.drew base e z A n c cs := h.far (Nat.le_refl _) fun _ _ _ => rfl
theorem six_stored {w : World} {g : Nat} {a b c d e f : Value} {T : TypeId} (h : w.heap[g]? = some (.cells #[a, b, c, d, e, f] T (0, 0))) (v0 v1 v2 v3 v4 v5 : Value) :
    ((((((w.setCell ⟨g, 0, none⟩ v0).setCell ⟨g, 1, none⟩ v1).setCell ⟨g, 2, none⟩ v2).setCell ⟨g, 3, none⟩ v3).setCell ⟨g, 4, none⟩ v4).setCell ⟨g, 5, none⟩ v5).heap[g]? = some (.cells #[v0, v1, v2, v3, v4, v5] T (0, 0)) := by
  have h0 := heap_setCell_same w g 0 _ _ v0 h
  have h1 := heap_setCell_same _ g 1 _ _ v1 h0
  have h2 := heap_setCell_same _ g 2 _ _ v2 h1
  have h3 := heap_setCell_same _ g 3 _ _ v3 h2
  have h4 := heap_setCell_same _ g 4 _ _ v4 h3
  have h5 := heap_setCell_same _ g 5 _ _ v5 h4
  simpa using h5
theorem six_other {w : World} {g q : Nat} (hne : q ≠ g) (v0 v1 v2 v3 v4 v5 : Value) :
    ((((((w.setCell ⟨g, 0, none⟩ v0).setCell ⟨g, 1, none⟩ v1).setCell ⟨g, 2, none⟩ v2).setCell ⟨g, 3, none⟩ v3).setCell ⟨g, 4, none⟩ v4).setCell ⟨g, 5, none⟩ v5).heap[q]? = w.heap[q]? := by
  rw [heap_set_other (p := ⟨g, 5, none⟩) hne, heap_set_other (p := ⟨g, 4, none⟩) hne, heap_set_other (p := ⟨g, 3, none⟩) hne, heap_set_other (p := ⟨g, 2, none⟩) hne, heap_set_other (p := ⟨g, 1, none⟩) hne, heap_set_other (p := ⟨g, 0, none⟩) hne]
theorem six_size {w : World} {g : Nat} (v0 v1 v2 v3 v4 v5 : Value) :
    ((((((w.setCell ⟨g, 0, none⟩ v0).setCell ⟨g, 1, none⟩ v1).setCell ⟨g, 2, none⟩ v2).setCell ⟨g, 3, none⟩ v3).setCell ⟨g, 4, none⟩ v4).setCell ⟨g, 5, none⟩ v5).heap.size = w.heap.size := by simp only [size_set]
theorem six_below {w w' : World} {B g : Nat} (h : Below B w w') (hg : B ≤ g) (v0 v1 v2 v3 v4 v5 : Value) :
    Below B w ((((((w'.setCell ⟨g, 0, none⟩ v0).setCell ⟨g, 1, none⟩ v1).setCell ⟨g, 2, none⟩ v2).setCell ⟨g, 3, none⟩ v3).setCell ⟨g, 4, none⟩ v4).setCell ⟨g, 5, none⟩ v5) :=
  (((((h.setCell (p := ⟨g, 0, none⟩) hg v0).setCell (p := ⟨g, 1, none⟩) hg v1).setCell (p := ⟨g, 2, none⟩) hg v2).setCell (p := ⟨g, 3, none⟩) hg v3).setCell (p := ⟨g, 4, none⟩) hg v4).setCell (p := ⟨g, 5, none⟩) hg v5
theorem six_stored_drew {w : World} {g : Nat} {a b c d e f : Value} {T : TypeId} (h : w.heap[g]? = some (.cells #[a, b, c, d, e, f] T (0, 0))) (v0 v1 v2 v3 v4 v5 : Value) :
    ((((((w.setCell ⟨g, 0, none⟩ v0).setCell ⟨g, 1, none⟩ v1).setCell ⟨g, 2, none⟩ v2).setCell ⟨g, 3, none⟩ v3).setCell ⟨g, 4, none⟩ v4).setCell ⟨g, 5, none⟩ v5).drew.heap[g]? = some (.cells #[v0, v1, v2, v3, v4, v5] T (0, 0)) := by
  rw [drew_heap]; exact six_stored h v0 v1 v2 v3 v4 v5
theorem six_own_drew {w : World} {base z n c g : Nat} {e : TypeId} {A : Option Addr} {cs : List Cl} (h : OwnC w base e z A n c cs) (hg : g < base) (v0 v1 v2 v3 v4 v5 : Value) : OwnC ((((((w.setCell ⟨g, 0, none⟩ v0).setCell ⟨g, 1, none⟩ v1).setCell ⟨g, 2, none⟩ v2).setCell ⟨g, 3, none⟩ v3).setCell ⟨g, 4, none⟩ v4).setCell ⟨g, 5, none⟩ v5).drew base e z A n c cs :=
  OwnC.drew (h.far (by rw [six_size]; exact Nat.le_refl _) fun q hq _ => six_other (by omega) _ _ _ _ _ _)
theorem six_below_drew {w' w : World} {B g : Nat} (h : Below B w' w) (hg : B ≤ g) (v0 v1 v2 v3 v4 v5 : Value) : Below B w' ((((((w.setCell ⟨g, 0, none⟩ v0).setCell ⟨g, 1, none⟩ v1).setCell ⟨g, 2, none⟩ v2).setCell ⟨g, 3, none⟩ v3).setCell ⟨g, 4, none⟩ v4).setCell ⟨g, 5, none⟩ v5).drew := Below.drew (six_below h hg _ _ _ _ _ _)
def PathRet (M : Mc) (w : World) (n s cost : Nat) (e : Ending) (w' : World) : Prop := ∃ A c l, e = .returned (.slice A l.length c) ∧ Cap l.length c ∧ SlP w' (fun b => w.heap.size ≤ b ∧ b < w'.heap.size) 2 A l.length (trsC l) ∧
      thrT M n 0 l = some s ∧ wtTs l = cost ∧ Below w.heap.size w w'
def PathAt (M : Mc) (f : FS) (w W : World) (n s cost : Nat) (k : Stp) (acc : List Tr) (A : Option Addr) (c : Nat) : Prop :=
  f.mar n k.st = some (k, true) ∧ thrT M n k.st acc.reverse = some s ∧ k.cost + wtTs acc = cost ∧ OwnC W (w.heap.size + 1) 157 2 A acc.length c (trsC acc) ∧
    W.heap[w.heap.size]? = some (.cells #[.int .i64 (k.num : Int), .int .i64 (k.st : Int), .int .i64 (k.cost : Int), .int .i64 k.frm, .int .i64 k.tree, .bool true] 249 (0, 0)) ∧ Below w.heap.size w W
theorem thrT_cons {M : Mc} {n s0 s v : Nat} {t : Tr} {l : List Tr} (h1 : stT M t = some v) (h2 : thrT M n (M.nx n s0 v) l = some s) : thrT M n s0 (t :: l) = some s := by
  rw [thrT, h1]; exact h2
set_option maxHeartbeats 4000000 in
set_option maxRecDepth 100000 in
theorem path_any {fb mm mf base : Nat} {mv : Value} {f : FS} {M : Mc} {own : FOwn} (hP : Paths M f) (hO : M.Ok) : ∀ (b : Nat), b ≤ 3000000000 → ∀ (w : World) (n s : Nat) (K : Stp), FIs w own base fb mm mf mv f → f.mar n s = some (K, true) → K.cost < b →
    Calls Tryz.prog 112 #[.pointer (some ⟨fb, 0, none⟩), .int .i64 (n : Int), .int .i64 (s : Int)] w (PathRet M w n s K.cost) := by
  intro b
  induction b with
  | zero => intro _ w n s K _ _ h; omega
  | succ b ih =>
  intro hb w n s K h hk hc
  have IH := Lib.hid (ih (by omega))
  have HP := Lib.hid hP
  clear ih hP
  obtain ⟨p1, p2, p3, p4, p5, p6⟩ := HP.out.mks n s K hk
  have hnb : n ≤ 1000000000000 := by have := hO.fewL; omega
  have hsb : s ≤ 1000000000000 := by have := hO.fewS n p3; omega
  obtain ⟨l, hkey⟩ := keyPl hnb hsb
  obtain ⟨n1, hm1⟩ := h.mks
  have hlk := hm1.look placeK Tryz.underlying239 (zMk w) hkey false
  rw [mkF_at, hk] at hlk
  have hlk' : (Instr.lookup 239 (.map (some mm)) (.agg #[.int .i64 (n : Int), .int .i64 (s : Int)]) false).run Tryz.prog w = .ok (.agg #[.int .i64 (K.num : Int), .int .i64 (K.st : Int), .int .i64 (K.cost : Int), .int .i64 K.frm, .int .i64 K.tree, .bool true]) w := hlk
  obtain ⟨A0, c0, AM0, cM0, AT0, cT0, MV0, b1, _⟩ := h.blk
  have k2 := Lib.cell_of_heap b1 2
  simp only [List.getElem?_toArray, List.getElem?_cons_zero, List.getElem?_cons_succ] at k2
  have H0 := Lib.hid h
  have HK := Lib.hid (And.intro hk (And.intro p1 p2))
  have hx := heap_alloc_new w (.cells #[.int .i64 (K.num : Int), .int .i64 (K.st : Int), .int .i64 (K.cost : Int), .int .i64 K.frm, .int .i64 K.tree, .bool true] 249)
  have hB1 := (Below.refl _ w).alloc (Nat.le_refl _) (.cells #[.int .i64 (K.num : Int), .int .i64 (K.st : Int), .int .i64 (K.cost : Int), .int .i64 K.frm, .int .i64 K.tree, .bool true] 249)
  have hs1 : (w.alloc (.cells #[.int .i64 (K.num : Int), .int .i64 (K.st : Int), .int .i64 (K.cost : Int), .int .i64 K.frm, .int .i64 K.tree, .bool true] 249)).heap.size = w.heap.size + 1 := World.size_alloc _ _
  clear h hk hm1 hlk hkey b1 p6 p1 p2
  go_enter Tryz.func112, Tryz.ntmps112
  go_wp2
  generalize w.alloc (.cells #[.int .i64 (K.num : Int), .int .i64 (K.st : Int), .int .i64 (K.cost : Int), .int .i64 K.frm, .int .i64 K.tree, .bool true] 249) = W1 at *
  clear hlk' k2
  go_loopg [7] K.cost (fun gk s7 wr => ∃ (k : Stp) (acc : List Tr) (A : Option Addr) (c : Nat), gk = k.cost ∧ s7 = .slice A acc.length c ∧ PathAt M f w wr n s K.cost k acc A c)
  case atStart => exact ⟨K, [], none, 0, rfl, rfl, by rw [HK.out.2.2]; exact HK.out.1, by rw [HK.out.2.2]; rfl, by simp [wtTs], OwnC.nil _ _ _ _, hx, hB1⟩
  case round =>
    obtain ⟨k, acc, A, c, rfl, rfl, hat⟩ := hrel
    obtain ⟨a1, a2, a3, a4, a5, a6⟩ := hat
    obtain ⟨q1, q2, q3, q4, q5, q6⟩ := HP.out.mks n k.st k a1
    have hF := H0.out.below a6 (Nat.le_refl _)
    rcases q6 with ⟨r1, r2, r3⟩ | ⟨s0, v, k0, src, r1, r2, r3, r4, r5, r6⟩
    · rw [r3] at a5
      have c4 := Lib.cell_of_heap a5 4
      simp only [List.getElem?_toArray, List.getElem?_cons_zero, List.getElem?_cons_succ] at c4
      have hwl : acc.length ≤ K.cost := Nat.le_trans (wtTs_ge acc) (by omega)
      obtain ⟨xs, o1, o2⟩ := a4
      obtain ⟨ps, rfl, hpl, o3⟩ := trs_turn o2
      have hsh := trs_shape o2 hpl
      have hsh' : ∀ p ∈ ps, ∃ a A n c, p = (Value.int .i64 a, .slice A n c) := hsh
      have HR := Lib.hid (reverse_any o1 (by omega) hsh')
      have HA := Lib.hid (And.intro a1 (And.intro a2 (And.intro a3 (And.intro a6 (And.intro o1 (And.intro o2 (And.intro o3 (And.intro r1 r2))))))))
      clear a1 a2 a3 a5 a6 o1 o2 o3 hsh hsh' r1 r2 r3 q1 q2 hF hx hB1
      go_wp2_with fail
      refine HR.out.mono ?_
      rintro e W2 ⟨rfl, t1, t2⟩
      have HT := Lib.hid (And.intro t1 t2)
      clear t1 t2
      go_wp2
      obtain ⟨a1, a2, a3, a6, o1, o2, o3, r1, r2⟩ := HA.out
      obtain ⟨t1, t2⟩ := HT.out
      have hB2 : Below w.heap.size w W2 := a6.grown t2 a6.size (fun q hq => by have := (o1.lt q hq).1; omega)
      have hO2 : OwnC W2 (w.heap.size + 1) 157 2 A acc.length c (trsC acc.reverse) :=
        ⟨_, t1, (o3.keep fun p hp => World.cell?_of_block (t2.block p.block hp.2.1 (fun e => hp.2.2 e.symm))).more fun b hb' => ⟨hb'.1, Nat.lt_of_lt_of_le hb'.2.1 t2.size, hb'.2.2⟩⟩
      have hle := hO2.le
      have HRET := Lib.hid (show PathRet M w n s K.cost (.returned (.slice A acc.length c)) W2 from
        ⟨A, c, acc.reverse, by rw [List.length_reverse], by rw [List.length_reverse]; exact hle, by rw [List.length_reverse]; exact hO2.sl.more fun b hb' => ⟨by omega, hb'.2⟩, by rw [r1] at a2; exact a2, by rw [wtTs_rev]; omega, hB2⟩)
      clear a1 a2 a3 a6 o1 o2 o3 r1 r2 t1 t2 hB2 hO2
      go_ret
      exact HRET.out
    · obtain ⟨g1, g2, k2, g3, g4⟩ := HP.out.fn v src r4
      have hsl : src.num < M.L := g1
      rw [q1] at r3 r6
      have hk0 := (HP.out.mks n s0 k0 r3)
      have hk2 := (HP.out.mks src.num src.st k2 g3)
      have htop : k.cost < topC := by unfold topC; omega
      have hge := addC_ge' (a := k0.cost) (b := src.cost) (by rw [g4]; exact addC_le _ _)
      have e1 : src.cost = k2.cost + 1 := addC_eq g4 (by omega)
      have e2 : k.cost = k0.cost + src.cost := addC_eq r5 htop
      have hvb : v ≤ 1000000000000 := by rw [← g2]; have := hO.out _ _ g1 hk2.2.2.2.1; have := hO.fewK; omega
      have hnb2 : src.num ≤ 1000000000000 := by have := hO.fewL; omega
      have hsb0 : s0 ≤ 1000000000000 := by have := hO.fewS n p3; have := hk0.2.2.2.1; omega
      rw [r1, r2] at a5
      have HE := Lib.hid (And.intro e1 e2)
      clear e1 e2 g4 r5
      obtain ⟨A1, c1, AM1, cM1, AT1, cT1, MV1, b1, _⟩ := hF.blk
      obtain ⟨m1, hm1⟩ := hF.fns
      have hlk := hm1.drew.look intK Tryz.underlying240 (zSr wr.drew) (keyIn hvb) false
      rw [fnF_at, r4] at hlk
      have hlk' : (Instr.lookup 240 (.map (some mf)) (.int .i64 (v : Int)) false).run Tryz.prog wr.drew = .ok (.agg #[.int .i64 (src.num : Int), .int .i64 (src.st : Int), .int .i64 (src.cost : Int)]) wr.drew := hlk
      have HLK := Lib.hid (show ∀ W : World, W.heap[mf]? = wr.heap[mf]? → (Instr.lookup 240 (.map (some mf)) (.int .i64 (v : Int)) false).run Tryz.prog W = .ok (.agg #[.int .i64 (src.num : Int), .int .i64 (src.st : Int), .int .i64 (src.cost : Int)]) W from fun W hW => by
        have := (hm1.block hW).look intK Tryz.underlying240 (zSr W) (keyIn hvb) false
        rw [fnF_at, r4] at this
        exact this)
      have hmfl := hm1.lt
      have x4 := Lib.cell_of_heap a5 4
      have x5 := Lib.cell_of_heap b1 5
      simp only [List.getElem?_toArray, List.getElem?_cons_zero, List.getElem?_cons_succ] at x4 x5
      have hwl := (Array.getElem?_eq_some_iff.1 a5).1
      have HA := Lib.hid (And.intro a1 (And.intro a2 (And.intro a3 (And.intro a4 (And.intro a5 a6)))))
      have HF := Lib.hid hF
      have HG := Lib.hid (And.intro g1 (And.intro g2 (And.intro g3 (And.intro r3 (And.intro r6 (And.intro hk0.1 hk0.2.1))))))
      clear a1 a2 a3 a4 a5 a6 hF b1 hm1 hlk r1 r2 r3 r4 r6 g1 g2 g3 hk0 hk2 q1 q2 hx hB1
      have n4 := World.new_ne wr.drew ⟨w.heap.size, 4, none⟩ x4
      have n5 := World.new_ne wr.drew ⟨fb, 5, none⟩ x5
      go_upto_region 4 with fail
      go_cut [9] (fun s9 wx => ∃ g, s9 = .pointer (some ⟨g, 0, none⟩) ∧ wr.heap.size ≤ g ∧ wx.heap[g]? = some (.cells #[.int .i64 (src.num : Int), .int .i64 (src.st : Int), .int .i64 (src.cost : Int)] 252 (0, 0)) ∧ Below wr.heap.size wr wx)
      case first =>
        go_region_held3 (fun w' => w'.cell? ⟨w.heap.size, 4, none⟩ = some (.int .i64 (v : Int)) ∧ w'.cell? ⟨fb, 5, none⟩ = some (.map (some mf)) ∧ (Instr.lookup 240 (.map (some mf)) (.int .i64 (v : Int)) false).run Tryz.prog w' = .ok (.agg #[.int .i64 (src.num : Int), .int .i64 (src.st : Int), .int .i64 (src.cost : Int)]) w')
          (first
            | exact ⟨x4, x5, hlk'⟩
            | (refine ⟨?_, ?_, HLK.out _ (Below.heap_alloc wr _ mf hmfl)⟩ <;> go_keep)
            | go_keep)
          (fail)
        all_goals
          go_wp2_with fail
          go_meet
          exact ⟨_, rfl, Nat.le_refl _, heap_alloc_new wr _, Below.drew ((Below.refl _ wr).alloc (Nat.le_refl _) _)⟩
      case rest =>
        obtain ⟨g, rfl, hgl, hg, hb4⟩ := hcut
        rename World => W4
        obtain ⟨a1, a2, a3, a4, a5, a6⟩ := HA.out
        obtain ⟨xs, o1, o2⟩ := a4
        have hs4 := hb4.size
        have hgl4 := (Array.getElem?_eq_some_iff.1 hg).1
        have HCALL := Lib.hid (IH.out W4.drew src.num src.st k2 (HF.out.below (Below.drew hb4) (Nat.le_refl _)) HG.out.2.2.1 (by have := HE.out.1; have := HE.out.2; omega))
        have y0 := Lib.cell_of_heap hg 0
        have y1 := Lib.cell_of_heap hg 1
        simp only [List.getElem?_toArray, List.getElem?_cons_zero, List.getElem?_cons_succ] at y0 y1
        have hacc : acc.length ≤ 3000000000 := by have := wtTs_ge acc; omega
        have hrow : ∀ q, (Value.slice A acc.length c).ownBlock = some q → w.heap.size < q ∧ q < wr.heap.size := fun q hq => ⟨by have := (o1.lt q hq).1; omega, (o1.lt q hq).2⟩
        have HROW := Lib.hid hrow
        have HO := Lib.hid (And.intro o1 o2)
        have HB4 := Lib.hid hb4
        have hng : some g ≠ (Value.slice A acc.length c).ownBlock := fun e => by have := (HROW.out g e.symm).2; omega
        clear a1 a2 a3 a5 a6 o1 o2 hg hb4 hrow hlk' x4 x5 n4 n5
        go_upto_region 5 with fail
        go_cut [7] (fun s7 wx => ∃ A' c' l2, s7 = .slice A' (acc.length + 1) c' ∧ OwnC wx (w.heap.size + 1) 157 2 A' (acc.length + 1) c' (trsC (acc ++ [.mk src.num l2])) ∧ thrT M src.num 0 l2 = some src.st ∧ wtTs l2 = k2.cost ∧ wx.heap[w.heap.size]? = wr.heap[w.heap.size]? ∧ Below w.heap.size w wx)
        case first =>
          go_region_held3 (fun w' => w'.cell? ⟨g, 0, none⟩ = some (.int .i64 (src.num : Int)) ∧ w'.cell? ⟨g, 1, none⟩ = some (.int .i64 (src.st : Int)))
            (first
              | exact ⟨y0, y1⟩
              | exact ⟨z0, z1⟩
              | exact ⟨(World.cell?_of_block (a := ⟨g, 0, none⟩) (Below.heap_alloc W5 _ g hg5)).trans z0, (World.cell?_of_block (a := ⟨g, 1, none⟩) (Below.heap_alloc W5 _ g hg5)).trans z1⟩
              | exact ⟨(grown_cell hg7 (a := ⟨g, 0, none⟩) (by simp; omega) hng).1.trans ((World.cell?_of_block (a := ⟨g, 0, none⟩) (Below.heap_alloc W5 _ g hg5)).trans z0), (grown_cell hg7 (a := ⟨g, 1, none⟩) (by simp; omega) hng).1.trans ((World.cell?_of_block (a := ⟨g, 1, none⟩) (Below.heap_alloc W5 _ g hg5)).trans z1)⟩
              | go_keep)
            (first
              | (go_at_call 112; refine HCALL.out.mono ?_; rintro e W5 ⟨A2, c2, l2, rfl, t1, t2, t3, t4, t5⟩; have z0 := (t5.cell (p := ⟨g, 0, none⟩) hgl4).trans y0; have z1 := (t5.cell (p := ⟨g, 1, none⟩) hgl4).trans y1; have hg5 := Nat.lt_of_lt_of_le hgl4 t5.size; have b5 := HB4.out.trans ((Below.drew (Below.refl _ W4)).trans t5 |>.mono hs4); have o5 := own_below HO.out.1 b5 (Nat.le_refl _))
              | (refine step_push (by rfl) _ _ _ (by rfl) (w.heap.size + 1) rowTr A acc.length c _ (by rfl) (o5.alloc _) W5.heap.size 1 _ (by rfl) (heap_alloc_new W5 _) (by rfl) (by simp [Value.oneCell']) (by unfold maxLen; omega) (by omega) (by simp; omega) ?_; intro A7 c7 W7 hc7 ho7 hg7 hat7))
          all_goals
            go_wp2_with fail
            go_meet
            have hba := (Below.refl _ W5).alloc (Nat.le_refl _) (.cells #[.int .i64 (src.num : Int), .slice A2 l2.length c2] 157)
            have h7 := OwnC.push (apart_below (apart_below HO.out.2 b5) hba) ho7 hg7 hat7 (CsIsP.cons (CIsP.int _ _ _) (CsIsP.cons (CIsP.sl ((SlP.keep t2 fun p hp => hba.cell hp.2).more fun q hq => ⟨by have h9 := hq.1; change W4.heap.size ≤ q at h9; omega, by have := hba.size; omega, fun e => by have := (HROW.out q e).2; have h9 := hq.1; change W4.heap.size ≤ q at h9; omega⟩) t1) (CsIsP.nil _ _)))
            have a6 := HA.out.2.2.2.2.2
            have hs6 := a6.size
            have hs5 := b5.size
            refine ⟨A7, c7, l2, rfl, ?_, t3, t4, ?_, ?_⟩
            · rw [trsC_append, trsC, trC_eq, trsC]
              exact h7
            · exact (hg7.block w.heap.size (by simp; omega) (fun e => by have := (HROW.out _ e.symm).1; omega)).trans ((hba.block w.heap.size (by omega)).trans (b5.block w.heap.size hwl))
            · exact ((a6.trans (b5.mono hs6)).alloc (by omega) _).grown hg7 (by simp; omega) (fun q hq => by have := (HROW.out q hq).1; omega)
        case rest =>
          obtain ⟨A', c', l2, rfl, u1, u2, u3, u4, u5⟩ := hcut
          rename World => W7
          obtain ⟨a1, a2, a3, a4, a5, a6⟩ := HA.out
          have hF7 := H0.out.below u5 (Nat.le_refl _)
          have hm7 := u4.trans a5
          obtain ⟨A8, c8, AM8, cM8, AT8, cT8, MV8, b1, _⟩ := hF7.blk
          obtain ⟨m1, hmm⟩ := hF7.mks
          obtain ⟨l8, hkey8⟩ := keyPl hnb hsb0
          have hlk := hmm.drew.look placeK Tryz.underlying239 (zMk W7.drew) hkey8 false
          rw [mkF_at, HG.out.2.2.2.1] at hlk
          have hlk' : (Instr.lookup 239 (.map (some mm)) (.agg #[.int .i64 (n : Int), .int .i64 (s0 : Int)]) false).run Tryz.prog W7.drew = .ok (.agg #[.int .i64 (k0.num : Int), .int .i64 (k0.st : Int), .int .i64 (k0.cost : Int), .int .i64 k0.frm, .int .i64 k0.tree, .bool true]) W7.drew := hlk
          have x0 := Lib.cell_of_heap hm7 0
          have x1 := Lib.cell_of_heap hm7 1
          have x2 := Lib.cell_of_heap hm7 2
          have x3 := Lib.cell_of_heap hm7 3
          have x4 := Lib.cell_of_heap hm7 4
          have x5 := Lib.cell_of_heap hm7 5
          have k2' := Lib.cell_of_heap b1 2
          have z0 := Lib.frozen_of_heap hm7 0
          have z1 := Lib.frozen_of_heap hm7 1
          have z2 := Lib.frozen_of_heap hm7 2
          have z3 := Lib.frozen_of_heap hm7 3
          have z4 := Lib.frozen_of_heap hm7 4
          have z5 := Lib.frozen_of_heap hm7 5
          simp only [List.getElem?_toArray, List.getElem?_cons_zero, List.getElem?_cons_succ] at x0 x1 x2 x3 x4 x5 k2'
          have HM7 := Lib.hid hm7
          have HU := Lib.hid (And.intro u1 (And.intro u2 (And.intro u3 u5)))
          clear u1 u2 u3 u4 u5 a1 a2 a3 a4 a5 a6 hF7 hm7 b1 hmm hkey8 hlk
          go_wp2
          go_region
          all_goals
            go_wp2
            go_roundg k0.cost
            case measure => have := HE.out.1; have := HE.out.2; omega
            case rel =>
              obtain ⟨g1, g2, g3, g4, g5, g6, g7⟩ := HG.out
              obtain ⟨u1, u2, u3, u5⟩ := HU.out
              obtain ⟨a1, a2, a3, _⟩ := HA.out
              refine ⟨k0, acc ++ [.mk src.num l2], A', c', rfl, by rw [List.length_append]; rfl, by rw [g7]; exact g4, ?_, ?_, ?_, six_stored_drew HM7.out _ _ _ _ _ _, six_below_drew u5 (Nat.le_refl _) _ _ _ _ _ _⟩
              · rw [List.reverse_append, g7]
                refine thrT_cons (v := v) ?_ (by rw [g5]; exact a2)
                rw [stT_mk M g1, u2, Option.map_some, g2]
              · have e1 := HE.out.1
                have e2 := HE.out.2
                rw [wtTs_append, wtTs, wtTs, wtT]
                omega
              · rw [List.length_append]
                exact six_own_drew u1 (by omega) _ _ _ _ _ _
end Go.Proofs.YtnkelhmjkmeilaaGreatDoor.H
end
section
namespace Go.Proofs.YtnkelhmjkmeilaaGreatDoor.H
open Go.RowKit Go.Maps Go.WideMaps
attribute [local go_sem ↓] Go.wp_at_zero Go.wp_at_succ
def Acc (M : Mc) (l : List Tr) : Prop := ∃ s, thrT M M.L 0 l = some s ∧ M.out M.L s = 1
def LeastRet (M : Mc) (w : World) (e : Ending) (w' : World) : Prop := Below w.heap.size w w' ∧
  ((∃ A c l, e = .returned (.tuple #[.slice A l.length c, .bool true]) ∧ Cap l.length c ∧ SlP w' (fun b => w.heap.size ≤ b ∧ b < w'.heap.size) 2 A l.length (trsC l) ∧ Acc M l ∧ wtTs l ≤ 2147483647 ∧ ∀ l', Acc M l' → wtTs l ≤ wtTs l') ∨
    (e = .returned (.tuple #[.slice none 0 0, .bool false]) ∧ ∀ l', Acc M l' → 2147483647 < wtTs l'))
theorem acc_rd {M : Mc} {l : List Tr} (h : Acc M l) : ∃ s c, Rd' M (M.L + 1) M.L s c ∧ M.out M.L s = 1 ∧ c ≤ wtTs l := by
  obtain ⟨s, h1, h2⟩ := h
  obtain ⟨c, h3, h4⟩ := (Rd'.of_trees (M := M) (N := M.L + 1) (by omega)).2 l M.L 0 s 0 (by omega) (Rd'.start (by omega)) h1
  exact ⟨s, c, h3, h2, by omega⟩
set_option maxHeartbeats 2000000 in
set_option maxRecDepth 100000 in
theorem least_any {w : World} {T : TypeId} {v : Value} {M : Mc} (hM : MachAt w (.iface T v) M) (hO : M.Ok) (hOL : ∀ s, s < M.sz M.L → M.out M.L s ≤ 1000) : Calls Tryz.prog 77 #[.iface T v] w (LeastRet M w) := by
  have HM := Lib.hid hM
  obtain ⟨T', v', Fl, Fn, Fo, hmv, mL, mN, mO, cL, cN, cO, kL, kN, kO⟩ := hM
  injection hmv with e1 e2
  subst e1 e2
  have HL := Lib.hid (kL w (Below.refl _ w))
  have HO := Lib.hid hOL
  have hLb := hO.fewL
  clear mN mO cN cO kL kN kO hOL
  go_enter Tryz.func77, Tryz.ntmps77
  go_wp2_with fail
  refine HL.out.mono ?_
  rintro e W1 ⟨rfl, b1⟩
  clear mL cL
  have hw := IntWalk.i64_in ((M.L : Int) + 1) (by omega)
  have hbg := begin_any (w := W1) (N := M.L + 1) T v M (by omega) (by omega)
  rw [show (((M.L + 1 : Nat)) : Int) = (M.L : Int) + 1 from rfl] at hbg
  have HBG := Lib.hid hbg
  clear hbg
  go_wp2_with fail
  refine HBG.out.mono ?_
  rintro e W2 ⟨fb, mm, mf, own, f, rfl, hF, hI, hH, hq, hnd, b2⟩
  have hbw : Below w.heap.size w W2 := b1.trans (b2.mono b1.size)
  have hs1 := b1.size
  have hs2 := b2.size
  have HRUN := Lib.hid (run_any hF HM.out hO (Nat.le_refl _) hbw hs1 hI hH (by omega) (fun s k h => absurd h (hnd _ s k)) HO.out)
  have HLT := Lib.hid (fun q r (hq : own q = some r) => (hF.lt q r hq).1)
  have HBW := Lib.hid hbw
  clear hF hI hH hq hnd b1 b2 hbw hw
  go_wp2_with fail
  refine HRUN.out.mono ?_
  rintro e W3 ⟨own3, f3, hF3, hS3, hR3⟩
  have HB3 := Lib.hid (hS3.below HBW.out (by omega) fun q r hq => Nat.le_trans hs1 (HLT.out q r hq))
  have HF3 := Lib.hid hF3
  have hs3 := hS3.kb.size
  clear hF3 hS3
  rcases hR3 with ⟨s, fx, P, X, rfl, hI, hmr, hfn, hk, hsn, hso, hmin⟩ | ⟨cur, rfl, hI, hq, hnr⟩
  · have hP : Paths M f3 := (hI.paths hO (Nat.le_refl _)).same hmr.symm hfn.symm
    have hx := heap_alloc_new W3 (.cells #[.int .i64 (s.num : Int), .int .i64 (s.st : Int), .int .i64 (s.cost : Int), .int .i64 s.frm, .int .i64 s.tree] 200)
    have hB4 := (Below.refl _ W3).alloc (Nat.le_refl _) (.cells #[.int .i64 (s.num : Int), .int .i64 (s.st : Int), .int .i64 (s.cost : Int), .int .i64 s.frm, .int .i64 s.tree] 200)
    have HX := Lib.hid (And.intro hP (And.intro hk (And.intro hsn (And.intro hso hmin))))
    have HB4 := Lib.hid hB4
    have hF4 := HF3.out.below hB4 (Nat.le_refl _)
    have HF4 := Lib.hid hF4
    clear hP hk hsn hso hmin hI hmr hfn hB4 hF4
    go_upto_region 3 with fail
    generalize W3.alloc (.cells #[.int .i64 (s.num : Int), .int .i64 (s.st : Int), .int .i64 (s.cost : Int), .int .i64 s.frm, .int .i64 s.tree] 200) = W4 at *
    have x0 := Lib.cell_of_heap hx 0
    have x1 := Lib.cell_of_heap hx 1
    have x2 := Lib.cell_of_heap hx 2
    simp only [List.getElem?_toArray, List.getElem?_cons_zero, List.getElem?_cons_succ] at x0 x1 x2
    have hs4 := HB4.out.size
    have HB5 := Lib.hid (HB3.out.trans (HB4.out.mono HB3.out.size))
    clear hx
    by_cases hc : (s.cost : Int) ≤ 2147483647
    · have hc' : ¬ (2147483647 : Int) < (s.cost : Int) := by omega
      have HPATH := Lib.hid (path_any HX.out.1 hO 2147483648 (by omega) W4 s.num s.st s HF4.out HX.out.2.1 (by omega))
      go_wp2_with fail
      refine HPATH.out.mono ?_
      rintro e W5 ⟨A, c, l, rfl, t1, t2, t3, t4, t5⟩
      obtain ⟨_, _, h3, h4, h5⟩ := HX.out
      have HRET := Lib.hid (show LeastRet M w (.returned (.tuple #[.slice A l.length c, .bool true])) W5 from
        ⟨HB5.out.trans (t5.mono HB5.out.size), .inl ⟨A, c, l, rfl, t1, t2.more fun q hq => ⟨by have := HB5.out.size; omega, hq.2⟩, ⟨s.st, by rw [h3] at t3; exact t3, h4⟩, by omega, fun l' hl => by
          obtain ⟨s', c', g1, g2, g3⟩ := acc_rd hl
          have := h5 s' c' g1 g2
          omega⟩⟩)
      clear t1 t2 t3 t4 t5 h3 h4 h5
      go_wp2
      go_ret2
      exact HRET.out
    · have hc' : (2147483647 : Int) < (s.cost : Int) := by omega
      have HRET := Lib.hid (show LeastRet M w (.returned (.tuple #[.slice none 0 0, .bool false])) W4 from
        ⟨HB5.out, .inr ⟨rfl, fun l' hl => by
          obtain ⟨s', c', g1, g2, g3⟩ := acc_rd hl
          have := HX.out.2.2.2.2 s' c' g1 g2
          omega⟩⟩)
      go_wp2
      go_ret2
      exact HRET.out
  · have hB4 := (Below.refl _ W3).alloc (Nat.le_refl _) (.cells #[.int .i64 0, .int .i64 0, .int .i64 0, .int .i64 0, .int .i64 0] 200)
    have HRET := Lib.hid (show LeastRet M w (.returned (.tuple #[.slice none 0 0, .bool false])) (W3.alloc (.cells #[.int .i64 0, .int .i64 0, .int .i64 0, .int .i64 0, .int .i64 0] 200)) from
      ⟨HB3.out.trans (hB4.mono HB3.out.size), .inr ⟨rfl, fun l' hl => by
        obtain ⟨s', c', g1, g2, g3⟩ := acc_rd hl
        rcases hI.least hO (Nat.le_refl _) (c := topC) (fun x hx => by rw [hq] at hx; cases hx) (Nat.le_refl _) g1 with ⟨k, h9, _⟩ | h9
        · exact absurd g2 (hnr _ _ h9)
        · unfold topC at h9; omega⟩⟩)
    clear hI hq hnr hB4
    go_wp2
    go_ret2
    exact HRET.out
end Go.Proofs.YtnkelhmjkmeilaaGreatDoor.H
end
section
namespace Go.Proofs.YtnkelhmjkmeilaaGreatDoor.H
open Go.RowKit Go.Maps Go.WideMaps
attribute [local go_sem ↓] Go.wp_at_zero Go.wp_at_succ
def accB (M : Mc) (l : List Tr) : Bool := stateI ((thrT M M.L 0 l).map (M.out M.L)) == 1
theorem accB_iff {M : Mc} {l : List Tr} : accB M l = true ↔ Acc M l := by
  unfold accB Acc
  cases h : thrT M M.L 0 l with
  | none => simp [stateI]
  | some s => simp [stateI]; omega
end Go.Proofs.YtnkelhmjkmeilaaGreatDoor.H
end
