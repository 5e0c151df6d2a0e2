/- The package write: Text, Length. -/
import Derived.Test.YtjobaciajfoneaaWr4
namespace Go.Proofs.Ytjobaciajfoneaa
open Go.RowKit

theorem Bld.oth {B b : Nat} {l : List UInt8} {w w' : World} {e : TypeId} (h : Bld B b l w) (k : Lib.OthersKept e none w w') (h1 : 41 ≠ e) (h2 : 5 ≠ e) : Bld B b l w' := by
  have key : ∀ p, Lib.BuilderAtF 41 5 B b p (Lib.byteCells l) w → Lib.BuilderAtF 41 5 B b p (Lib.byteCells l) w' := by
    rintro p ⟨hB, v, hb, hown, hne⟩
    refine ⟨hB, v, k b _ hb (by simp) (fun c fz e1 => by injection e1 with _ e2; exact h1 e2), ⟨hown.1, ?_⟩, hne⟩
    rcases hown.2 with h0 | ⟨g, cap, cur, fz, hv, e1, e2, e3⟩
    · exact .inl h0
    · exact .inr ⟨g, cap, cur, fz, hv, e1, k g _ e2 (by simp) (fun c fz e1 => by injection e1 with _ e2; exact h2 e2), e3⟩
  rcases h with h | h
  · exact .inl (key _ h)
  · exact .inr (key _ h)

/-- a call of a function that has a body -/
theorem enters {P : Program} {f : FuncId} {fn : Func} {c : Code} (hf : P.funcs[f]? = some fn) (hname : (fn.name == "runtime.NumGoroutine") = false) (hb : fn.body = some c) (args : Array Value) (w : World) :
    Sem.run P (callFunc f args) w = .ok (.enter f args) w := by
  have h1 : fn.name ≠ "runtime.NumGoroutine" := by simpa using hname
  simp [callFunc, hf, h1, hb]

set_option maxRecDepth 100000 in
theorem putText (B : Nat) : Put 18 B B (fun l w => Bld B B l w ∧ B ≤ w.heap.size) where
  call := by
    rintro l m w ⟨hi, hB⟩ hl
    go_enter Try.func18, Try.ntmps18
    go_wp2_with fail
    refine (WriteString_any (IsStr.mk m) hi (by omega) hB).mono ?_
    rintro e w' ⟨rfl, h1, h2, h3⟩
    go_wp2
    go_end0
    exact ⟨rfl, ⟨h1, Nat.le_trans hB h2.size⟩, h2, h3⟩
  enter := fun args w => enters Try.func18 (by kernel_rfl) rfl args w
  keep := by
    rintro l w w' ⟨hi, hB⟩ k
    refine ⟨hi.oth k (by decide) (by decide), ?_⟩
    have hb : B < w.heap.size := by
      rcases hi with ⟨_, v, hb, _⟩ | ⟨_, v, hb, _⟩
      · exact (Array.getElem?_eq_some_iff.1 hb).1
      · exact (Array.getElem?_eq_some_iff.1 hb).1
    have hb' : B < w'.heap.size := by
      rcases hi.oth k (by decide) (by decide) with ⟨_, v, hb, _⟩ | ⟨_, v, hb, _⟩
      · exact (Array.getElem?_eq_some_iff.1 hb).1
      · exact (Array.getElem?_eq_some_iff.1 hb).1
    omega

set_option maxRecDepth 100000 in
theorem putOpen (B : Nat) : Put 22 B B (fun l w => Bld B B l w ∧ B ≤ w.heap.size) where
  call := by
    rintro l m w ⟨hi, hB⟩ hl
    go_enter Try.func22, Try.ntmps22
    go_wp2_with fail
    refine (WriteString_any (IsStr.mk m) hi (by omega) hB).mono ?_
    rintro e w' ⟨rfl, h1, h2, h3⟩
    go_wp2
    go_end0
    exact ⟨rfl, ⟨h1, Nat.le_trans hB h2.size⟩, h2, h3⟩
  enter := fun args w => enters Try.func22 (by kernel_rfl) rfl args w
  keep := by
    rintro l w w' ⟨hi, hB⟩ k
    refine ⟨hi.oth k (by decide) (by decide), ?_⟩
    have hb : B < w.heap.size := by
      rcases hi with ⟨_, v, hb, _⟩ | ⟨_, v, hb, _⟩
      · exact (Array.getElem?_eq_some_iff.1 hb).1
      · exact (Array.getElem?_eq_some_iff.1 hb).1
    have hb' : B < w'.heap.size := by
      rcases hi.oth k (by decide) (by decide) with ⟨_, v, hb, _⟩ | ⟨_, v, hb, _⟩
      · exact (Array.getElem?_eq_some_iff.1 hb).1
      · exact (Array.getElem?_eq_some_iff.1 hb).1
    omega

set_option maxRecDepth 100000 in
theorem putClose (B : Nat) : Put 24 B B (fun l w => Bld B B l w ∧ B ≤ w.heap.size) where
  call := by
    rintro l m w ⟨hi, hB⟩ hl
    go_enter Try.func24, Try.ntmps24
    go_wp2_with fail
    refine (WriteString_any (IsStr.mk m) hi (by omega) hB).mono ?_
    rintro e w' ⟨rfl, h1, h2, h3⟩
    go_wp2
    go_end0
    exact ⟨rfl, ⟨h1, Nat.le_trans hB h2.size⟩, h2, h3⟩
  enter := fun args w => enters Try.func24 (by kernel_rfl) rfl args w
  keep := by
    rintro l w w' ⟨hi, hB⟩ k
    refine ⟨hi.oth k (by decide) (by decide), ?_⟩
    have hb : B < w.heap.size := by
      rcases hi with ⟨_, v, hb, _⟩ | ⟨_, v, hb, _⟩
      · exact (Array.getElem?_eq_some_iff.1 hb).1
      · exact (Array.getElem?_eq_some_iff.1 hb).1
    have hb' : B < w'.heap.size := by
      rcases hi.oth k (by decide) (by decide) with ⟨_, v, hb, _⟩ | ⟨_, v, hb, _⟩
      · exact (Array.getElem?_eq_some_iff.1 hb).1
      · exact (Array.getElem?_eq_some_iff.1 hb).1
    omega

set_option maxHeartbeats 1000000 in
set_option maxRecDepth 100000 in
/-- write.Text -/
theorem WText_any {w : World} {A : Option Addr} {c : Nat} {l : List Nd} (hN : Nodes w w.heap.size A l.length l) (hc : l.length ≤ c) (hl : (textL l).length ≤ 1000000) :
    Calls Try.prog 7 #[.slice A l.length c] w fun e w' => e = .returned (.string ⟨(textL l).toArray⟩) ∧ Below w.heap.size w w' := by
  go_enter Try.func7, Try.ntmps7
  go_wp2_with fail
  have ba := (Below.refl w.heap.size w).alloc (Nat.le_refl _) (.cells #[.pointer none, .slice none 0 0] 41)
  refine (tell_any (putText w.heap.size) (by simp) (by simp) (hN.below ba) hc ⟨Bld.fresh w, by simp⟩ (by simpa using hl)).mono ?_
  rintro e W1 ⟨rfl, ⟨i1, s1⟩, b1⟩
  have B1 := ba.trans b1
  clear ba b1
  go_wp2_with fail
  refine (BString_any i1 s1).mono ?_
  rintro e W3 ⟨u, rfl, hu, _, b3, _⟩
  rw [List.nil_append] at hu
  obtain rfl := hu.to
  clear hu
  go_wp2
  go_ret
  exact ⟨rfl, B1.trans b3⟩

/-- block b holds the number of the bytes -/
def Num (b : Nat) (l : List UInt8) (w : World) : Prop := w.heap[b]? = some (.cells #[.int .i64 l.length] 3 (0, 0)) ∧ l.length ≤ 200000000
set_option maxRecDepth 100000 in
theorem putLength (B : Nat) : Put 25 B B (fun l w => Num B l w) where
  call := by
    rintro l m w ⟨hi, hle⟩ hl
    have c0 := Lib.cell_of_heap hi 0
    have f0 := Lib.frozen_of_heap hi 0
    simp only [List.getElem?_toArray, List.getElem?_cons_zero] at c0
    go_enter Try.func25, Try.ntmps25
    go_wp2
    go_end0
    refine ⟨rfl, ⟨?_, by simp; omega⟩, (Below.refl B w).setCell (p := ⟨B, 0, none⟩) (Nat.le_refl _) _, (Lib.OthersKept.refl _ _ w).setCell ⟨B, 0, none⟩ rfl _⟩
    rw [heap_setCell_same w B 0 _ _ _ hi]
    simp
  enter := fun args w => enters Try.func25 (by kernel_rfl) rfl args w
  keep := by
    rintro l w w' ⟨hi, hle⟩ k
    exact ⟨k B _ hi (by simp) (fun c fz e => by injection e with _ e2; revert e2; decide), hle⟩

set_option maxHeartbeats 1000000 in
set_option maxRecDepth 100000 in
/-- write.Length -/
theorem WLength_any {w : World} {A : Option Addr} {c : Nat} {l : List Nd} (hN : Nodes w w.heap.size A l.length l) (hc : l.length ≤ c) (hl : (textL l).length ≤ 1000000) :
    Calls Try.prog 12 #[.slice A l.length c] w fun e w' => e = .returned (.int .i64 (textL l).length) ∧ Below w.heap.size w w' := by
  go_enter Try.func12, Try.ntmps12
  go_wp2_with fail
  have ba := (Below.refl w.heap.size w).alloc (Nat.le_refl _) (.cells #[.int .i64 0] 3)
  refine (tell_any (L := []) (putLength w.heap.size) (by simp) (by simp) (hN.below ba) hc ⟨heap_alloc_new w _, by simp⟩ (by simpa using hl)).mono ?_
  rintro e W1 ⟨rfl, ⟨i1, s1⟩, b1⟩
  have B1 := ba.trans b1
  rw [List.nil_append] at i1
  have c0 := Lib.cell_of_heap i1 0
  simp only [List.getElem?_toArray, List.getElem?_cons_zero] at c0
  clear ba b1
  go_wp2
  go_ret
  exact ⟨rfl, B1⟩

theorem NodeAt.box {w : World} {B : Nat} {n : Nd} {cs : List Value} (h : NIs w B n cs) (hB : B ≤ w.heap.size) (T : TypeId) : NodeAt (w.alloc (.cells cs.toArray T)) (w.heap.size + 1) ⟨w.heap.size, 0, none⟩ n := by
  have hc := fun j => Lib.cell_of_heap (heap_alloc_new w (.cells cs.toArray T)) j
  have hb : Below B w (w.alloc (.cells cs.toArray T)) := (Below.refl B w).alloc hB _
  cases n
  simp only [NIs, NIsP] at h
  obtain ⟨A, n, c, A', n', c', xs, rfl, h1, h2, h3, h4, h5⟩ := h
  refine ⟨by simp, A, n, c, A', n', c', ?_, ?_, ?_, ?_, ?_, h1, ((Rd.below (B := B) h2 hb).more (by omega)), h3, ⟨xs, ((Rd.below (B := B) h4 hb).more (by omega)), NsIs.more (B := B) (by omega) (NsIs.keep (fun p hp => hb.cell hp) h5)⟩⟩
  · rw [hc]; rfl
  all_goals rw [add_pos _ _ (by omega)]; simp only [Nat.zero_add]; rw [hc]; rfl

set_option maxHeartbeats 1000000 in
set_option maxRecDepth 100000 in
/-- write.Open -/
theorem WOpen_any {w : World} {n : Nd} {cs : List Value} (hn : NIs w w.heap.size n cs) (hl : (opL n).length ≤ 1000000) :
    Calls Try.prog 9 #[.agg cs.toArray] w fun e w' => e = .returned (.string ⟨(opL n).toArray⟩) ∧ Below w.heap.size w w' := by
  have hP := putOpen (w.heap.size + 1)
  have ba := (Below.refl w.heap.size w).alloc (Nat.le_refl _) (.cells cs.toArray 28)
  have bb := (Below.refl (w.heap.size + 1) (w.alloc (.cells cs.toArray 28))).alloc (by simp) (.cells #[.pointer none, .slice none 0 0] 41)
  have hN := (NodeAt.box hn (Nat.le_refl _) 28).keep bb
  have h5 := hn.five
  have hfr : Bld (w.heap.size + 1) (w.heap.size + 1) [] ((w.alloc (.cells cs.toArray 28)).alloc (.cells #[.pointer none, .slice none 0 0] 41)) := by
    have := Bld.fresh (w.alloc (.cells cs.toArray 28))
    simpa using this
  clear hn h5
  go_enter Try.func9, Try.ntmps9
  go_wp2_with fail
  refine (begin_any hP (by simp) (by simp) hN ⟨hfr, by simp⟩ (by simpa using hl)).mono ?_
  rintro e W1 ⟨rfl, ⟨i1, s1⟩, b1, _⟩
  have B1 := ba.trans ((bb.trans b1).mono (by omega))
  clear ba bb b1
  go_wp2_with fail
  refine (BString_any i1 s1).mono ?_
  rintro e W3 ⟨u, rfl, hu, _, b3, _⟩
  rw [List.nil_append] at hu
  obtain rfl := hu.to
  clear hu
  go_wp2
  go_ret
  exact ⟨rfl, B1.trans (b3.mono (by omega))⟩

set_option maxHeartbeats 1000000 in
set_option maxRecDepth 100000 in
/-- write.Close -/
theorem WClose_any {w : World} {n : Nd} {cs : List Value} (hn : NIs w w.heap.size n cs) (hl : (clL n).length ≤ 1000000) :
    Calls Try.prog 10 #[.agg cs.toArray] w fun e w' => e = .returned (.string ⟨(clL n).toArray⟩) ∧ Below w.heap.size w w' := by
  have hP := putClose (w.heap.size + 1)
  have ba := (Below.refl w.heap.size w).alloc (Nat.le_refl _) (.cells cs.toArray 28)
  have bb := (Below.refl (w.heap.size + 1) (w.alloc (.cells cs.toArray 28))).alloc (by simp) (.cells #[.pointer none, .slice none 0 0] 41)
  have hN := (NodeAt.box hn (Nat.le_refl _) 28).keep bb
  have hfr : Bld (w.heap.size + 1) (w.heap.size + 1) [] ((w.alloc (.cells cs.toArray 28)).alloc (.cells #[.pointer none, .slice none 0 0] 41)) := by
    have := Bld.fresh (w.alloc (.cells cs.toArray 28))
    simpa using this
  clear hn
  go_enter Try.func10, Try.ntmps10
  go_wp2_with fail
  refine (end_any hP hN ⟨hfr, by simp⟩ (by simp; omega)).mono ?_
  rintro e W1 ⟨rfl, ⟨i1, s1⟩, b1, _⟩
  have B1 := ba.trans ((bb.trans b1).mono (by omega))
  clear ba bb b1
  go_wp2_with fail
  refine (BString_any i1 s1).mono ?_
  rintro e W3 ⟨u, rfl, hu, _, b3, _⟩
  rw [List.nil_append] at hu
  obtain rfl := hu.to
  clear hu
  go_wp2
  go_ret
  exact ⟨rfl, B1.trans (b3.mono (by omega))⟩
end Go.Proofs.Ytjobaciajfoneaa
