/- The finder's beginning. -/
import Derived.Test.YtbipdnnalhdoaaaHl
namespace Go.Proofs.Ytbipdnnalhdoaaa
open Go.RowKit Go.Maps Go.WideMaps
attribute [local go_sem ↓] Go.wp_at_zero Go.wp_at_succ

/-- a finder that is new -/
theorem FIs.made {w w4 : World} {N mm fb mf : Nat} {mv : Value} (hw : w.heap.size ≤ mm) (h1 : mm < w4.heap.size) (hmm : w4.heap[mm]? = some (.map #[] 0)) (hmf : w4.heap[mf]? = some (.map #[] 0)) (hw2 : w.heap.size ≤ mf) (hne : mm ≠ mf)
    {g : Nat} (hr : w4.ownsRow w.heap.size 24 1 (.slice (some ⟨g, 0, none⟩) N N) N (List.replicate N (.slice none 0 0))) (hfb : w4.heap[fb]? = some (.cells #[mv, .slice none 0 0, .map (some mm), .slice (some ⟨g, 0, none⟩) N N, .slice none 0 0, .map (some mf)] 85 (0, 0)))
    (hg1 : g ≠ fb) (hg2 : g ≠ mm) (hg3 : g ≠ mf) (hfm : fb ≠ mm) (hff : fb ≠ mf) (hw3 : w.heap.size ≤ fb) (hw5 : w.heap.size ≤ g) :
    FIs w4 (fun q => if q = fb then some .fin else if q = mm then some .mkm else if q = mf then some .fnm else if q = g then some .metr else none) w.heap.size fb mm mf mv (fs0 N) := by
  have lf := (Array.getElem?_eq_some_iff.1 hmf).1
  have lb := (Array.getElem?_eq_some_iff.1 hfb).1
  have lg := hr.lt g rfl
  have hnone : ∀ (e : TypeId) (z : Nat) (xs : List Value), xs = [] → w4.ownsRow w.heap.size e z (.slice none 0 0) 0 xs := fun e z xs hx => ⟨by rw [hx]; simp, .inl ⟨rfl, rfl⟩⟩
  refine ⟨fun q r hq => ?_, by simp, by simp [Ne.symm hfm], by simp [Ne.symm hff, Ne.symm hne], ⟨none, 0, some ⟨g, 0, none⟩, N, none, 0, List.replicate N (.slice none 0 0), ?_, ⟨hnone _ _ _ rfl, fun q hq => by cases hq⟩, ⟨?_, fun q hq => ?_⟩, fun i hi => ?_, ⟨hnone _ _ _ rfl, fun q hq => by cases hq⟩⟩, ⟨0, ?_⟩, ⟨0, ?_⟩⟩
  · split at hq
    · rename_i e; subst e; exact ⟨hw3, lb⟩
    · split at hq
      · rename_i e; subst e; exact ⟨hw, h1⟩
      · split at hq
        · rename_i e; subst e; exact ⟨hw2, lf⟩
        · split at hq
          · rename_i e; subst e; exact lg
          · cases hq
  · simpa [fs0] using hfb
  · simpa [fs0] using hr
  · have hq' : q = g := by
      simp only [Value.ownBlock] at hq
      injection hq with hq
      exact hq.symm
    subst hq'
    simp [hg1, hg2, hg3]
  · have hi' : i < N := by simpa [fs0] using hi
    have hz : (fs0 N).met[i].length = 0 := by simp [fs0]
    have hz' : (fs0 N).met[i] = [] := by simp [fs0]
    refine ⟨none, 0, ?_, ?_, fun q hq => by cases hq⟩
    · rw [hz]; simp [hi']
    · rw [hz', List.length_nil]
      exact hnone _ _ _ rfl
  · have hf : mkF (fs0 N).mar = fun _ => none := by
      funext v
      unfold mkF fs0
      split
      · split
        · split <;> rfl
        · rfl
      · rfl
    rw [hf]
    exact ⟨#[], 0, hmm, by simp, by simp, by simp, by simp, by simp⟩
  · have hf : fnF (fs0 N).fnd = fun _ => none := by
      funext v
      unfold fnF fs0
      split
      · split <;> rfl
      · rfl
    rw [hf]
    exact ⟨#[], 0, hmf, by simp, by simp, by simp, by simp, by simp⟩

theorem made_nils (N : Nat) : (madeCells #[Value.slice none 0 0] N).toList = List.replicate N (.slice none 0 0) := by
  apply List.ext_getElem?
  intro i
  by_cases hi : i < N
  · simp [madeCells, hi, Nat.mod_one]
  · simp [madeCells, hi, Nat.mod_one]
set_option maxHeartbeats 2000000 in
set_option maxRecDepth 100000 in
theorem begin_any {w : World} {N : Nat} (T : TypeId) (v : Value) (M : Mc) (h0 : 0 < N) (hN : N ≤ 1000) :
    Calls Try.prog 38 #[.iface T v, .int .i64 (N : Int)] w fun e w' => ∃ fb mm mf own f, e = .returned (.pointer (some ⟨fb, 0, none⟩)) ∧ FIs w' own w.heap.size fb mm mf (.iface T v) f ∧ FInv M N N 0 f (fun _ _ _ => False) (fun _ _ => False) ∧
      Heap f.q ∧ f.q.length ≤ N ∧ (∀ n s k, f.mar n s ≠ some (k, true)) ∧ Below w.heap.size w w' := by
  have hmk := @run_makeMap Try.prog
  obtain ⟨ind, hind, hzd, hsd, hbd⟩ := info_parts infoSl
  have hma := heap_alloc_new w (.map #[] 0)
  have hbl := (Below.refl _ w).alloc (Nat.le_refl _) (.map #[] 0)
  have hs1 : (w.alloc (.map #[] 0)).heap.size = w.heap.size + 1 := World.size_alloc _ _
  go_enter Try.func38, Try.ntmps38
  go_upto_region 2 with (at_make; go_must (refine wpList_make_full _ rfl _ _ 23 rfl w.heap.size 24 ind _ 1 Try.underlying23 hind hzd hsd .i64 .i64 _ _ N rfl rfl rfl rfl (by rw [hbd]; omega) (by unfold maxLen; omega) (by omega) ?_))
  intro W2 hown2 hg2
  rw [made_nils] at hown2
  have hs2 := hg2.size
  rw [hs1] at hs2
  have hmm2 := (hg2.block w.heap.size (by omega) (by simp)).trans hma
  have hb2 := hbl.grown hg2 (by omega) (fun q hq => by cases hq)
  have hlg : w.heap.size + 1 < W2.heap.size := (hown2.lt (w.heap.size + 1) rfl).2
  have hma3 := heap_alloc_new W2 (.map #[] 0)
  have hal3 := fun k hk => Below.heap_alloc W2 (.map #[] 0) k hk
  have hs3 : (W2.alloc (.map #[] 0)).heap.size = W2.heap.size + 1 := World.size_alloc _ _
  have hown3 := hown2.alloc (.map #[] 0)
  have hb3 := hb2.alloc (by omega) (.map #[] 0)
  have H2 := Lib.hid (And.intro hown2 hg2)
  clear hown2 hg2 hma hbl hs1
  go_upto_region 2 with fail
  generalize W2.alloc (.map #[] 0) = W3 at *
  have hx := heap_alloc_new W3 (.cells #[.iface T v, .slice none 0 0, .map (some w.heap.size), .slice (some ⟨w.heap.size + 1, 0, none⟩) N N, .slice none 0 0, .map (some W2.heap.size)] 85)
  have hal := fun k hk => Below.heap_alloc W3 (.cells #[.iface T v, .slice none 0 0, .map (some w.heap.size), .slice (some ⟨w.heap.size + 1, 0, none⟩) N N, .slice none 0 0, .map (some W2.heap.size)] 85) k hk
  have hown4 := hown3.alloc (.cells #[.iface T v, .slice none 0 0, .map (some w.heap.size), .slice (some ⟨w.heap.size + 1, 0, none⟩) N N, .slice none 0 0, .map (some W2.heap.size)] 85)
  have hb4 := hb3.alloc (by omega) (.cells #[.iface T v, .slice none 0 0, .map (some w.heap.size), .slice (some ⟨w.heap.size + 1, 0, none⟩) N N, .slice none 0 0, .map (some W2.heap.size)] 85)
  have hs4 : (W3.alloc (.cells #[.iface T v, .slice none 0 0, .map (some w.heap.size), .slice (some ⟨w.heap.size + 1, 0, none⟩) N N, .slice none 0 0, .map (some W2.heap.size)] 85)).heap.size = W3.heap.size + 1 := World.size_alloc _ _
  have hF := FIs.made (w := w) (fb := W3.heap.size) (Nat.le_refl _) (by omega) ((hal w.heap.size (by omega)).trans ((hal3 w.heap.size (by omega)).trans hmm2)) ((hal W2.heap.size (by omega)).trans hma3) (by omega) (by omega) hown4 hx (by omega) (by omega) (by omega) (by omega) (by omega) (by omega) (by omega)
  rw [hs3] at hF
  generalize W3.alloc (.cells #[.iface T v, .slice none 0 0, .map (some w.heap.size), .slice (some ⟨w.heap.size + 1, 0, none⟩) N N, .slice none 0 0, .map (some W2.heap.size)] 85) = W4 at *
  have HF := Lib.hid hF
  have HB := Lib.hid hb4
  have hlo : ∀ q r, (fun q => if q = W2.heap.size + 1 then some FR.fin else if q = w.heap.size then some .mkm else if q = W2.heap.size then some .fnm else if q = w.heap.size + 1 then some .metr else none) q = some r → w.heap.size ≤ q := fun q r hq => (hF.lt q r hq).1
  generalize (fun q => if q = W2.heap.size + 1 then some FR.fin else if q = w.heap.size then some .mkm else if q = W2.heap.size then some .fnm else if q = w.heap.size + 1 then some .metr else none) = own0 at *
  have HLO := Lib.hid hlo
  clear hx hal hown4 hown3 hb3 hb4 hF hlo hma3 hal3 hmm2 hb2 hmk H2
  generalize hfb : W2.heap.size + 1 = fb at *
  go_wp2
  go_loopw [15] (fun iv wr => ∃ (J : Nat) (own1 : FOwn) (f1 : FS), iv = .int .i64 J ∧ J ≤ N ∧ FIs wr own1 w.heap.size fb w.heap.size W2.heap.size (.iface T v) f1 ∧ FInv M N J 0 f1 (fun _ _ _ => False) (fun _ _ => False) ∧ Hid (Heap f1.q ∧ f1.q.length ≤ J ∧ ∀ n s k, f1.mar n s ≠ some (k, true)) ∧ FStep W4 wr own0 own1) (fun iv _ => N - (intOf iv).toNat)
  case atStart => exact ⟨0, own0, fs0 N, rfl, Nat.zero_le _, HF.out, FInv.zero M N, ⟨fun i hi hin => by simp [fs0] at hin, Nat.zero_le _, fun n s k h => by cases h⟩, FStep.refl _ _⟩
  case round =>
    obtain ⟨J, own1, f1, rfl, hJ, hF1, hI1, hq1, hS1⟩ := hrel
    by_cases hlt : J < N
    · have HP := Lib.hid (put_any hF1 hq1.out.1 (by have := hq1.out.2.1; omega) ⟨J, 0, 0, -1, -1⟩ (by show J ≤ _; omega) (Nat.zero_le _))
      have HI1 := Lib.hid hI1
      have HS1 := Lib.hid hS1
      have hltI : (J : Int) < (N : Int) := by omega
      clear hF1 hI1 hS1
      go_wp2_with fail
      refine HP.out.mono ?_
      rintro e W5 ⟨rfl, own2, f2, hP, hF2, hS2, hU2⟩
      have hI2 := HI1.out.begin hlt hP
      have hg := put_grows hP
      have HF2 := Lib.hid hF2
      have HI2 := Lib.hid hI2
      have HQ2 := Lib.hid (show Heap f2.q ∧ f2.q.length ≤ J + 1 ∧ ∀ n s k, f2.mar n s ≠ some (k, true) from ⟨hg.2.2.2.2.2.1 hq1.out.1, by have := hg.2.2.2.2.1; have := hq1.out.2.1; omega, fun n s k h => hq1.out.2.2 n s k (hg.2.2.2.2.2.2 n s k h)⟩)
      have HS2 := Lib.hid (HS1.out.trans hS2)
      clear hP hF2 hS2 hU2 hI2 hg
      go_wp2
      go_roundw
      case rel => exact ⟨J + 1, own2, f2, by go_num, by omega, HF2.out, HI2.out, HQ2.out, HS2.out⟩
      case measure => simp [intOf]; omega
    · obtain rfl : J = N := by omega
      have HF1 := Lib.hid hF1
      have HI1 := Lib.hid hI1
      have HB5 := Lib.hid (hS1.below HB.out (by omega) HLO.out)
      clear hF1 hI1 hS1
      go_wp2
      go_ret
      exact ⟨fb, _, _, own1, f1, rfl, HF1.out, HI1.out, hq1.out.1, hq1.out.2.1, hq1.out.2.2, HB5.out⟩
end Go.Proofs.Ytbipdnnalhdoaaa
