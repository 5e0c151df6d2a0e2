/- rules.reader.line at words that are not quoted: its first three stages. rules.lines at the policy of alive: its three lines, one by one. policy.May at the policy of alive. policy.May at the policy of alive. -/
import Derived.Deep.RegionHeld3
import Derived.Laws.ResultCell
import Derived.LoopIn
import Derived.LoopNIn
import Derived.OwnWalkIn
import Derived.RangeFuncBound
import Derived.RangeFuncCalls
import Derived.RangeFuncLeaves
import Derived.RangeFuncNested
import Derived.Shelf.Abstract
import Derived.Shelf.RegionOpen
import Derived.TacticsInMore
import Derived.WalkKit
import Derived.Test.YtnkelhmjkmeilaaGreatDoorT15
import Derived.Test.YtnkelhmjkmeilaaGreatDoorT16
import Derived.Test.YtnkelhmjkmeilaaGreatDoorT02
section
namespace Go.Proofs.YtnkelhmjkmeilaaGreatDoor.H
open Go.RowKit
attribute [local go_sem ↓] Go.wp_at_zero Go.wp_at_succ
theorem own_lw {w : World} {base base' size n : Nat} {e : TypeId} {v : Value} {xs : List Value} (h : w.ownsRow base e size v n xs) (hb : base' ≤ base) : w.ownsRow base' e size v n xs := by
  refine ⟨h.1, ?_⟩
  rcases h.2 with h0 | ⟨g, cap, cur, h1, h2, h3⟩
  · exact .inl h0
  · exact .inr ⟨g, cap, cur, h1, Nat.le_trans hb h2, h3⟩
def wStrainer : List UInt8 := [115, 116, 114, 97, 105, 110, 101, 114]
def wTop : List UInt8 := [116, 111, 112]
def wUnwrap : List UInt8 := [117, 110, 119, 114, 97, 112]
def lineB (k : Nat) (x : List UInt8) (rest : List (List UInt8)) : Bool :=
  if k = 0 then x == wStrainer && decide (rest = [[49]]) else if k = 1 then x == wTop else x == wUnwrap
def KpB (rb : Nat) (w w' : World) : Prop := Below 0 w w' ∧ ∀ q, q < w.heap.size → q ≠ rb → w'.heap[q]? = w.heap[q]?
theorem KpB.of {rb : Nat} {w w' : World} (h : Below w.heap.size w w') : KpB rb w w' := ⟨h.mono (Nat.zero_le _), fun q hq _ => h.block q hq⟩
theorem KpB.set {rb : Nat} {w w' : World} (h : KpB rb w w') (o : Nat) (v : Value) : KpB rb w (w'.setCell ⟨rb, o, none⟩ v) :=
  ⟨h.1.setCell (p := ⟨rb, o, none⟩) (Nat.zero_le _) v, fun q hq hn => (heap_set_other (p := ⟨rb, o, none⟩) hn).trans (h.2 q hq hn)⟩
theorem KpB.on {rb : Nat} {w w' w'' : World} (h : KpB rb w w') (b : Below w'.heap.size w' w'') : KpB rb w w'' :=
  ⟨h.1.trans (b.mono (Nat.zero_le _)), fun q hq hn => (b.block q (Nat.lt_of_lt_of_le hq h.1.size)).trans (h.2 q hq hn)⟩
theorem KpB.drewN {rb : Nat} {w w' : World} (h : KpB rb w w') (n : Nat) : KpB rb w (w'.drewN n) := ⟨below_drewN h.1 n, h.2⟩
def RdrAt (w : World) (rb : Nat) (v0 v1 v2 : Value) (k : Nat) : Prop := w.heap[rb]? = some (.cells #[v0, v1, v2, .int .i64 k] 93 (0, 0))
theorem RdrAt.on {w w' : World} {rb k : Nat} {v0 v1 v2 : Value} (h : RdrAt w rb v0 v1 v2 k) (b : Below w.heap.size w w') : RdrAt w' rb v0 v1 v2 k := (b.block rb (Array.getElem?_eq_some_iff.1 h).1).trans h
theorem RdrAt.stage {w : World} {rb k : Nat} {v0 v1 v2 : Value} (h : RdrAt w rb v0 v1 v2 k) (m : Nat) : RdrAt (w.setCell ⟨rb, 3, none⟩ (.int .i64 m)) rb v0 v1 v2 m := by
  have := heap_setCell_same w rb 3 _ _ (.int .i64 m) h
  simpa [RdrAt] using this
theorem RdrAt.top {w : World} {rb k : Nat} {v0 v1 v2 : Value} (h : RdrAt w rb v0 v1 v2 k) (v : Value) : RdrAt (w.setCell ⟨rb, 0, none⟩ v) rb v v1 v2 k := by
  have := heap_setCell_same w rb 0 _ _ v h
  simpa [RdrAt] using this
theorem RdrAt.unw {w : World} {rb k : Nat} {v0 v1 v2 : Value} (h : RdrAt w rb v0 v1 v2 k) (v : Value) : RdrAt (w.setCell ⟨rb, 2, none⟩ v) rb v0 v1 v k := by
  have := heap_setCell_same w rb 2 _ _ v h
  simpa [RdrAt] using this
theorem own_fr {w : World} {base z n : Nat} {e : TypeId} {v : Value} {xs : List Value} (h : w.ownsRow base e z v n xs) {p : Addr} (hp : p.block < base) (u : Value) : (w.setCell p u).ownsRow base e z v n xs := by
  refine ⟨h.1, ?_⟩
  rcases h.2 with h0 | ⟨g, cap, cur, h1, h2, h3, h4⟩
  · exact .inl h0
  · exact .inr ⟨g, cap, cur, h1, h2, (heap_set_other (by omega)).trans h3, h4⟩
def LineRet (k : Nat) (x : List UInt8) (rest : List (List UInt8)) (w : World) (rb : Nat) (v0 v1 v2 : Value) (e : Ending) (w' : World) : Prop :=
  e = .returned (.bool (lineB k x rest)) ∧ ∃ A c, w'.ownsRow w.heap.size 9 1 (.slice A rest.length c) rest.length (rest.map strV) ∧
    RdrAt w' rb (if k = 1 then .slice A rest.length c else v0) v1 (if k = 2 then .slice A rest.length c else v2) (k + 1) ∧ KpB rb w w'
def LineCut (x : List UInt8) (rest : List (List UInt8)) (w : World) (s7 s8 : Value) (wx : World) : Prop :=
  s7 = strV x ∧ ∃ A c, s8 = .slice A rest.length c ∧ wx.ownsRow w.heap.size 9 1 (.slice A rest.length c) rest.length (rest.map strV) ∧ Below w.heap.size w wx
theorem strs_getD (l : List (List UInt8)) (j : Nat) (hj : j < l.length) : (l.map fun x => (⟨x.toArray⟩ : ByteArray)).getD j ByteArray.empty = ⟨l[j].toArray⟩ := by
  rw [List.getD_eq_getElem?_getD, List.getElem?_map, List.getElem?_eq_getElem hj]
  rfl
theorem strs_map (l : List (List UInt8)) : (l.map fun x => (⟨x.toArray⟩ : ByteArray)).map Value.string = l.map strV := by
  rw [List.map_map]; rfl
theorem clone_strs {w : World} {g o n c : Nat} {l : List (List UInt8)} (hn : l.length = n) (hb : n ≤ 1000) (h : ∀ j, (hj : j < l.length) → w.cell? ⟨g, o + j, none⟩ = some (strV l[j])) :
    Calls Tryz.prog 56 #[.slice (some ⟨g, o, none⟩) n c] w fun e w' => ∃ A' c', e = .returned (.slice A' n c') ∧ w'.ownsRow w.heap.size 9 1 (.slice A' n c') n (l.map strV) ∧ Below w.heap.size w w' := by
  refine (Tryz.slices_Clone_string g o n c (l.map fun x => (⟨x.toArray⟩ : ByteArray)) w (by simp [hn]) (by omega) ?_).mono ?_
  · intro j hj
    rw [List.length_map] at hj
    rw [strs_getD l j hj]
    exact h j hj
  · rintro e w' ⟨v', rfl, h2, _, h4⟩
    have h5 : ((l.map fun x => (⟨x.toArray⟩ : ByteArray)).take n) = l.map fun x => (⟨x.toArray⟩ : ByteArray) := List.take_of_length_le (by simp [hn])
    rw [h5, strs_map] at h2
    obtain ⟨A', c', rfl, _⟩ := own_shape h2
    exact ⟨A', c', rfl, h2, h4⟩
theorem clone_none {w : World} {a : Addr} {c : Nat} :
    Calls Tryz.prog 56 #[.slice (some a) 0 c] w fun e w' => ∃ A' c', e = .returned (.slice A' 0 c') ∧ w'.ownsRow w.heap.size 9 1 (.slice A' 0 c') 0 [] ∧ Below w.heap.size w w' := by
  refine (Tryz.slices_Clone_string_zero a c w).mono ?_
  rintro e w' ⟨v', rfl, h2, _, h4⟩
  obtain ⟨A', c', rfl, _⟩ := own_shape h2
  exact ⟨A', c', rfl, h2, h4⟩
theorem eq_one {w : World} {base g c d : Nat} {A : Option Addr} {l : List (List UInt8)} (ho : w.ownsRow base 9 1 (.slice A l.length c) l.length (l.map strV)) (hl : l.length ≤ 1000) (hg : w.cell? ⟨g, 0, none⟩ = some (.string ⟨#[49]⟩)) :
    Calls Tryz.prog 58 #[.slice A l.length c, .slice (some ⟨g, 0, none⟩) 1 d] w fun e w' => e = .returned (.bool (decide (l = [[49]]))) ∧ ∃ q, w' = w.drewN q := by
  by_cases h0 : l = []
  · subst h0
    refine (Tryz.slices_Equal_string_empty A (some ⟨g, 0, none⟩) c 1 d w (by decide)).mono ?_
    rintro e w' ⟨rfl, rfl⟩
    exact ⟨rfl, 0, rfl⟩
  · obtain ⟨k, cap, hv, _, hlt⟩ := ho.form (List.length_pos_iff.2 h0)
    have hA : A = some ⟨k, 0, none⟩ := by injection hv
    subst hA
    have hc := ho.cells (g := k) rfl
    refine (Tryz.slices_Equal_string k 0 l.length c g 0 1 d (l.map fun x => (⟨x.toArray⟩ : ByteArray)) [⟨#[49]⟩] w (by simp) (by simp) (by omega) (by decide) ?_ ?_).mono ?_
    · intro j hj
      rw [List.length_map] at hj
      rw [strs_getD l j hj]
      have := hc j (strV l[j]) (by simp [hj])
      rw [show (⟨k, 0, none⟩ : Addr).add j = ⟨k, 0 + j, none⟩ by simp [Addr.add]; exact fun h => h.symm] at this
      exact this
    · intro j hj
      obtain rfl : j = 0 := by simpa using hj
      exact hg
    · rintro e w' ⟨rfl, q, rfl⟩
      refine ⟨?_, q, rfl⟩
      congr 3
      rw [List.take_of_length_le (by simp)]
      apply propext
      constructor
      · intro h
        cases l with
        | nil => exact absurd rfl h0
        | cons y t =>
          cases t with
          | nil =>
            simp only [List.map_cons, List.map_nil, List.take_succ_cons, List.take_nil, List.cons.injEq, and_true] at h
            have := congrArg (fun b : ByteArray => b.data.toList) h
            simpa using this
          | cons z t => simp at h
      · intro h
        subst h
        rfl
set_option maxHeartbeats 8000000 in
set_option maxRecDepth 100000 in
theorem line_any {w : World} {rb g q k c d : Nat} {v0 v1 v2 : Value} {x : List UInt8} {rest : List (List UInt8)} (hR : RdrAt w rb v0 v1 v2 k) (hk : k < 3)
    (hT : ∀ j, (hj : j < (x :: rest).length) → w.cell? ⟨g, j, none⟩ = some (strV (x :: rest)[j])) (hg : g < w.heap.size) (hQ : ∀ j, j < rest.length + 1 → w.cell? ⟨q, j, none⟩ = some (.bool false)) (hq : q < w.heap.size)
    (_hgr : g ≠ rb) (_hqr : q ≠ rb) (hn : rest.length ≤ 100) (hc : rest.length + 1 ≤ c) (hcb : c ≤ maxLen) (hd : rest.length + 1 ≤ d) :
    Calls Tryz.prog 42 #[.pointer (some ⟨rb, 0, none⟩), .slice (some ⟨g, 0, none⟩) (rest.length + 1) c, .slice (some ⟨q, 0, none⟩) (rest.length + 1) d] w (LineRet k x rest w rb v0 v1 v2) := by
  unfold maxLen at hcb
  have hl := (Array.getElem?_eq_some_iff.1 hR).1
  have t0 := fun w' (hw' : Below w.heap.size w w') => (hw'.cell (p := ⟨g, 0, none⟩) hg).trans (hT 0 (by simp))
  simp only [List.getElem_cons_zero] at t0
  have HR := Lib.hid hR
  have HQ := Lib.hid hQ
  have b0 := Below.refl w.heap.size w
  have HC : Hid (∀ w', Below w.heap.size w w' → ∀ p : Addr, p = ⟨g, 1, none⟩ ∨ rest = [] → Calls Tryz.prog 56 #[.slice (some p) rest.length (c - 1)] w' fun e w'' => ∃ A' c', e = .returned (.slice A' rest.length c') ∧ w''.ownsRow w.heap.size 9 1 (.slice A' rest.length c') rest.length (rest.map strV) ∧ Below w'.heap.size w' w'') := by
    refine Lib.hid fun w' hw' p hp => ?_
    refine Calls.mono (?_ : Calls _ _ _ _ fun e w'' => ∃ A' c', e = .returned (.slice A' rest.length c') ∧ w''.ownsRow w'.heap.size 9 1 (.slice A' rest.length c') rest.length (rest.map strV) ∧ Below w'.heap.size w' w'') fun e w'' h => by
      obtain ⟨A', c', h1, h2, h3⟩ := h
      exact ⟨A', c', h1, own_lw h2 hw'.size, h3⟩
    by_cases h0 : rest = []
    · subst h0
      exact clone_none
    · obtain rfl := hp.resolve_right h0
      refine clone_strs rfl (by omega) fun j hj => (hw'.cell (p := ⟨g, 1 + j, none⟩) hg).trans ?_
      have := hT (j + 1) (by simpa using hj)
      rw [Nat.add_comm 1 j]
      simpa using this
  clear hR hQ hT
  have hnc : (rest.length : Int) + 1 ≤ (c : Int) := by omega
  have h1n : (1 : Int) ≤ (rest.length : Int) + 1 := by omega
  have h0n : (0 : Int) < (rest.length : Int) + 1 := by omega
  have hc0 : (1 : Int) ≤ (c : Int) := by omega
  go_enter Tryz.func42, Tryz.ntmps42
  go_upto_region 1 with fail
  go_cut [7, 8] (fun s7 s8 wx => LineCut x rest w s7 s8 wx)
  case first =>
    by_cases hc1 : c = 1
    · have hr0 : rest = [] := List.eq_nil_of_length_eq_zero (by omega)
      subst hc1
      subst hr0
      simp only [List.length_nil, Nat.zero_add] at *
      go_region_held3 (fun w' => Below w.heap.size w w')
        (repeat (first | assumption | with_reducible refine Below.drew ?_ | with_reducible refine bt (a := w) ?_ br))
        (first
          | (go_at_call 56; refine (HC.out _ (by assumption) _ (by first | exact Or.inr rfl | simp)).mono ?_; rintro e WA ⟨A', c', rfl, ho, br⟩; have hbw : Below w.heap.size w WA := bt (by assumption) br))
      all_goals
        go_wp2_with fail
        go_meet
        exact ⟨rfl, A', c', rfl, ho, hbw⟩
    · go_region_held3 (fun w' => Below w.heap.size w w')
        (repeat (first | assumption | with_reducible refine Below.drew ?_ | with_reducible refine bt (a := w) ?_ br))
        (first
          | (go_at_call 56; refine (HC.out _ (by assumption) _ (Or.inl rfl)).mono ?_; rintro e WA ⟨A', c', rfl, ho, br⟩; have hbw : Below w.heap.size w WA := bt (by assumption) br))
      all_goals
        go_wp2_with fail
        go_meet
        exact ⟨rfl, A', c', rfl, ho, hbw⟩
  case rest =>
    obtain ⟨rfl, A2, c2, rfl, ho, hb⟩ := hcut
    rename World => W2
    clear HC t0 b0
    have hq2 : ∀ j, j < rest.length + 1 → W2.cell? ⟨q, j, none⟩ = some (.bool false) := fun j hj => (hb.cell (p := ⟨q, j, none⟩) hq).trans (HQ.out j hj)
    have q0 := hq2 0 (by omega)
    have hR2 := HR.out.on hb
    have z3 := Lib.cell_of_heap hR2 3
    have f0 := Lib.frozen_of_heap hR2 0
    have f2 := Lib.frozen_of_heap hR2 2
    have f3 := Lib.frozen_of_heap hR2 3
    have z0 := Lib.cell_of_heap hR2 0
    have z1 := Lib.cell_of_heap hR2 1
    have z2 := Lib.cell_of_heap hR2 2
    simp only [List.getElem?_toArray, List.getElem?_cons_zero, List.getElem?_cons_succ] at z0 z1 z2 z3
    have HC := Lib.hid (Contains_bools (w := W2) (a := ⟨q, 0, none⟩) (n := rest.length + 1) (c := d) (fun j hj => by have := hq2 j hj; rw [show (⟨q, 0, none⟩ : Addr).add j = ⟨q, j, none⟩ by simp [Addr.add]; exact fun h => h.symm]; exact this) (by omega))
    clear hq2
    go_wp2_with fail
    refine HC.out.mono ?_
    rintro e W3 ⟨rfl, rfl⟩
    clear HC
    obtain rfl | rfl | rfl : k = 0 ∨ k = 1 ∨ k = 2 := by omega
    · have ho1 := own_fr ho (p := ⟨rb, 3, none⟩) hl (.int .i64 1)
      have hr1 := hR2.stage 1
      have hk1 := (KpB.of (rb := rb) hb).set 3 (.int .i64 1)
      by_cases hx : x = wStrainer
      · subst hx
        have hal := (Below.refl _ (W3.setCell ⟨rb, 3, none⟩ (.int .i64 1))).alloc (Nat.le_refl _) (.cells #[.string ⟨#[49]⟩] 9)
        have hs3 : (W3.setCell ⟨rb, 3, none⟩ (.int .i64 1)).heap.size = W3.heap.size := size_set
        have HE := Lib.hid (eq_one (d := 1) (g := (W3.setCell ⟨rb, 3, none⟩ (.int .i64 1)).heap.size) (own_below ho1 hal (Nat.le_refl _)) (by omega) (Lib.cell_of_heap (heap_alloc_new (W3.setCell ⟨rb, 3, none⟩ (.int .i64 1)) (.cells #[.string ⟨#[49]⟩] 9)) 0))
        have HO := Lib.hid (own_below ho1 hal (Nat.le_refl _))
        have HRW := Lib.hid (hr1.on hal)
        have HKB := Lib.hid (hk1.on hal)
        rw [hs3] at HE
        clear ho hR2 ho1 hr1 hk1 hal
        go_wp2_with fail
        refine HE.out.mono ?_
        rintro e W4 ⟨rfl, qq, rfl⟩
        go_wp2
        all_goals (go_ret; exact ⟨ret_bool (by simp [lineB]), A2, c2, HO.out, HRW.out, HKB.out.drewN _⟩)
      · have HO := Lib.hid ho1
        have HRW := Lib.hid hr1
        have HKB := Lib.hid hk1
        have hx' : (x == wStrainer) = false := by simpa using hx
        clear ho hR2 ho1 hr1 hk1
        unfold wStrainer at hx hx'
        go_wp2
        all_goals (go_ret; exact ⟨ret_bool (by simp [lineB, wStrainer, hx']), A2, c2, HO.out, HRW.out, HKB.out⟩)
    · have HO := Lib.hid (own_fr (own_fr ho (p := ⟨rb, 3, none⟩) hl (.int .i64 2)) (p := ⟨rb, 0, none⟩) hl (.slice A2 rest.length c2))
      have HRW := Lib.hid ((hR2.stage 2).top (.slice A2 rest.length c2))
      have HKB := Lib.hid (((KpB.of (rb := rb) hb).set 3 (.int .i64 2)).set 0 (.slice A2 rest.length c2))
      clear ho hR2
      go_wp2
      all_goals (go_ret; exact ⟨ret_bool (by simp_all [lineB, wTop]), A2, c2, HO.out, HRW.out, HKB.out⟩)
    · have HO := Lib.hid (own_fr (own_fr ho (p := ⟨rb, 3, none⟩) hl (.int .i64 3)) (p := ⟨rb, 2, none⟩) hl (.slice A2 rest.length c2))
      have HRW := Lib.hid ((hR2.stage 3).unw (.slice A2 rest.length c2))
      have HKB := Lib.hid (((KpB.of (rb := rb) hb).set 3 (.int .i64 3)).set 2 (.slice A2 rest.length c2))
      clear ho hR2
      go_wp2
      all_goals (go_ret; exact ⟨ret_bool (by simp_all [lineB, wUnwrap]), A2, c2, HO.out, HRW.out, HKB.out⟩)
end Go.Proofs.YtnkelhmjkmeilaaGreatDoor.H
end
section
namespace Go.Proofs.YtnkelhmjkmeilaaGreatDoor.H
open Go.RowKit Go.Shelf
attribute [local go_sem] Oper.semAt_some
def alL : List UInt8 := [115, 116, 114, 97, 105, 110, 101, 114, 32, 49, 10, 116, 111, 112, 32, 35, 116, 101, 120, 116, 10, 117, 110, 119, 114, 97, 112, 10]
abbrev wText : List UInt8 := [35, 116, 101, 120, 116]
def alHd : Nat → List UInt8
  | 0 => wStrainer
  | 1 => wTop
  | _ => wUnwrap
def alTl : Nat → List (List UInt8)
  | 0 => [[49]]
  | 1 => [wText]
  | _ => []
def alW (k : Nat) : List (List UInt8) := alHd k :: alTl k
def alO : Nat → Nat
  | 0 => 0
  | 1 => 11
  | 2 => 21
  | _ => 28
def alS (k : Nat) : ByteArray := ⟨(joinW (alW k) ++ [10]).toArray⟩
structure AlT (s : ByteArray) : Prop where
  size : s.size = 28
  ix : ∀ k, k < 3 → Lib.indexByte (s.extract (alO k) s.size).data.toList 10 = (alO (k + 1) : Int) - (alO k : Int) - 1
  part : ∀ k, k < 3 → s.extract (alO k) (alO (k + 1)) = alS k
theorem alT : AlT ⟨alL.toArray⟩ := by
  refine ⟨rfl, fun k hk => ?_, fun k hk => ?_⟩
  · obtain rfl | rfl | rfl : k = 0 ∨ k = 1 ∨ k = 2 := by omega
    all_goals decide +kernel
  · obtain rfl | rfl | rfl : k = 0 ∨ k = 1 ∨ k = 2 := by omega
    all_goals rfl
abbrev encA (i : Fin 3) : Array Value := #[.int .i64 (alO i.1), .string (alS i.1)]
def alP (k : Nat) : List (Fin 3) := ([0, 1, 2] : List (Fin 3)).take k
def KpS (Bs : Nat) (W W' : World) : Prop := ∀ v, W.cell? ⟨Bs, 0, none⟩ = some v → W'.cell? ⟨Bs, 0, none⟩ = some v
set_option maxHeartbeats 4000000 in
set_option maxRecDepth 100000 in
theorem lines_stops (n : Nat) (hn : 1 ≤ n) (Bs : Nat) (s : ByteArray) (hA : AlT s) (w : World) (hB : Bs < w.heap.size) (hc : w.cell? ⟨Bs, 0, none⟩ = some (.string s)) :
    SeqStopsK Fence.wide n Tryz.prog 52 #[.pointer (some ⟨Bs, 0, none⟩)] encA (KpS Bs) (fun xs => xs = [0, 1, 2]) (fun pre => pre <+: [0, 1, 2]) 3 w := fun l J Jx W hW hJ hJx hY h0 => by
  have hsz := hA.size
  have HA := Lib.hid hA
  have hcW : W.cell? ⟨Bs, 0, none⟩ = some (.string s) := (hW.cell (p := ⟨Bs, 0, none⟩) hB).trans hc
  clear hA hc hW
  refine callsIn_of_wp Tryz.func52 rfl trivial ?_ rfl
  simp only [Tryz.ntmps52, List.size_toArray, List.length_cons, List.length_nil, Nat.reduceAdd, Nat.reduceSub, Array.replicate_succ, Array.replicate_zero, List.push_toArray, List.append_toArray, List.nil_append, List.cons_append]
  gi_wp2
  gi_loopw [3] (fun p wr => ∃ k : Nat, k ≤ 3 ∧ p = .int .i64 (alO k) ∧ wr.cell? ⟨Bs, 0, none⟩ = some (.string s) ∧ J (alP k) wr) (fun p _ => 28 - (intOf p).toNat)
  case atStart => exact ⟨0, by omega, rfl, hcW, h0⟩
  case round =>
    obtain ⟨k, hk, rfl, hcr, hJs⟩ := hrel
    by_cases hk3 : k = 3
    · subst hk3
      have hJ3 := Lib.hid hJs
      clear hJs
      simp only [alO] at *
      gi_wp2
      go_end0
      exact ⟨⟨_, rfl⟩, .inl ⟨_, rfl, hJ3.out⟩⟩
    · have hk2 : k < 3 := by omega
      have HIX := Lib.hid (HA.out.ix k hk2)
      have HPT := Lib.hid (HA.out.part k hk2)
      obtain ⟨i, hi⟩ : ∃ i : Fin 3, i.1 = k := ⟨⟨k, hk2⟩, rfl⟩
      have hlen : (alP k).length < 3 := by
        obtain rfl | rfl | rfl : k = 0 ∨ k = 1 ∨ k = 2 := by omega
        all_goals decide
      obtain ⟨fn, tmps, assign, body, hy, hR⟩ := hY (alP k) i wr hJs hlen
      have hOs : alO k < alO (k + 1) ∧ alO (k + 1) ≤ 28 := by
        obtain rfl | rfl | rfl : k = 0 ∨ k = 1 ∨ k = 2 := by omega
        all_goals decide
      have hnx : alP k ++ [i] = alP (k + 1) := by
        obtain ⟨v, hv⟩ := i
        simp only at hi
        subst hi
        obtain rfl | rfl | rfl : v = 0 ∨ v = 1 ∨ v = 2 := by omega
        all_goals rfl
      dsimp only [encA] at hy
      rw [hi, ← HPT.out] at hy
      have HNX := Lib.hid hnx
      have HK := Lib.hid hi
      clear hnx hi hJs
      obtain ⟨o, ho⟩ : ∃ o, o = alO k := ⟨_, rfl⟩
      obtain ⟨o', ho'⟩ : ∃ o', o' = alO (k + 1) := ⟨_, rfl⟩
      rw [← ho] at HIX hy hOs ⊢
      rw [← ho'] at HIX hy hOs
      have HO := Lib.hid ho
      have HO' := Lib.hid ho'
      clear ho ho' HPT
      have hol : (o : Int) < 28 := by omega
      have hol' : o ≤ s.size := by omega
      have HI : Hid (Calls Tryz.prog 53 #[.string (s.extract o 28), .int .u8 10] wr fun e w' => e = .returned (.int .i64 ((o' : Int) - o - 1)) ∧ w' = wr) := Lib.hid <| (Tryz.strings_IndexByte (s.extract o 28) 10 wr).mono fun e w' h => ⟨by
        have h2 := HIX.out
        rw [hsz] at h2
        rw [h.1, ← h2]; rfl, h.2⟩
      have h1 : ((o' : Int) - o == 0) = false := by rw [beq_eq_false_iff_ne]; omega
      have h3 : (o' : Int) ≤ 28 := by omega
      have h4 : (o : Int) < o' := by omega
      have h5 : (o : Int) + ((o' : Int) - o) = o' := by omega
      gi_wp2_with (refine ⟨trivial, ?_⟩; gi_at_call 53; refine (callsIn_wide.2 HI.out).mono ?_; rintro e w' ⟨rfl, rfl⟩)
      refine hR.mono ?_
      rw [HNX.out]
      rintro e W3 (⟨rfl, hJ3, hk3'⟩ | ⟨rfl, hJx3⟩)
      · have hc3 := hk3' _ hcr
        have HJ3 := Lib.hid hJ3
        clear hJ3
        gi_wp2
        go_roundw
        case rel => exact ⟨k + 1, by omega, by rw [← HO'.out], hc3, HJ3.out⟩
        case measure => simp [intOf]; omega
      · have HJ3 := Lib.hid hJx3
        clear hJx3
        gi_wp2
        refine bodyPost_ret (results_none rfl _ _ _) rfl ?_
        exact ⟨⟨_, rfl⟩, .inr ⟨alP (k + 1), List.take_prefix _ _, HJ3.out⟩⟩
end Go.Proofs.YtnkelhmjkmeilaaGreatDoor.H
end
section
namespace Go.Proofs.YtnkelhmjkmeilaaGreatDoor.H
open Go.RowKit Go.Maps Go.WideMaps
attribute [local go_sem ↓] Go.wp_at_zero Go.wp_at_succ
theorem lines_any (s : ByteArray) (w : World) : Calls Tryz.prog 39 #[.string s] w fun e w' => e = .returned (.func (.func 52) #[] #[.pointer (some ⟨w.heap.size, 0, none⟩)]) ∧ w' = w.alloc (.cells #[.string s] 9) := by
  go_enter Tryz.func39, Tryz.ntmps39
  go_wp2
  go_ret
  exact ⟨rfl, rfl⟩
theorem run_makeMap_hint {P : Program} {t k e : TypeId} (h : P.underlying t = some (.map k e)) (n : Int) (w : World) : (Instr.makeMap t (some (.int .i64 n))).run P w = .ok (.map (some w.heap.size)) (w.alloc (.map #[] 0)) := by
  simp [Instr.makeMap, run_underlying h, asInt, asIntOf, Result.andThen]
theorem len_map {w : World} {b clock : Nat} {es : Array MapEntry} (hb : w.heap[b]? = some (.map es clock)) (ty : TypeId) : (Builtin.len_ #[169] ty #[.map (some b)]).run Tryz.prog w = .ok (.int .i64 es.size) w := by
  have hu := Tryz.underlying169
  simp [Builtin.len_, run_underlying hu, run_getObj_map w b es clock hb]
  rfl
set_option maxHeartbeats 1000000 in
set_option maxRecDepth 100000 in
theorem twiceA_none {w : World} (A : Option Addr) (c : Nat) : Calls Tryz.prog 60 #[.slice A 0 c, .func (.func 61) #[] #[]] w fun e w' => e = .returned (.bool false) ∧ Below w.heap.size w w' := by
  have hmm := fun n w => run_makeMap_hint (P := Tryz.prog) Tryz.underlying169 n w
  have hb := (Below.refl _ w).alloc (Nat.le_refl _) (.map #[] 0)
  have hlen := len_map (heap_alloc_new w (.map #[] 0))
  simp only [List.size_toArray, List.length_nil] at hlen
  go_enter Tryz.func60, Tryz.ntmps60
  go_wp2_with fail
  go_loopw [13] (fun i wr => i = .int .i64 0 ∧ wr = w.alloc (.map #[] 0)) (fun _ _ => 0)
  case atStart => exact ⟨rfl, rfl⟩
  case round =>
    obtain ⟨rfl, rfl⟩ := hrel
    go_wp2
    go_ret
    exact ⟨rfl, hb⟩
set_option maxHeartbeats 1000000 in
set_option maxRecDepth 100000 in
theorem twiceS_none {w : World} (A : Option Addr) (c : Nat) : Calls Tryz.prog 62 #[.slice A 0 c, .func (.func 63) #[] #[]] w fun e w' => e = .returned (.bool false) ∧ Below w.heap.size w w' := by
  have hmm := fun n w => run_makeMap_hint (P := Tryz.prog) Tryz.underlying169 n w
  have hb := (Below.refl _ w).alloc (Nat.le_refl _) (.map #[] 0)
  have hlen := len_map (heap_alloc_new w (.map #[] 0))
  simp only [List.size_toArray, List.length_nil] at hlen
  go_enter Tryz.func62, Tryz.ntmps62
  go_wp2_with fail
  go_loopw [13] (fun i wr => i = .int .i64 0 ∧ wr = w.alloc (.map #[] 0)) (fun _ _ => 0)
  case atStart => exact ⟨rfl, rfl⟩
  case round =>
    obtain ⟨rfl, rfl⟩ := hrel
    go_wp2
    go_ret
    exact ⟨rfl, hb⟩
theorem itself_any (v : Value) (w : World) : Calls Tryz.prog 63 #[v] w fun e w' => e = .returned v ∧ w' = w := by
  go_enter Tryz.func63, Tryz.ntmps63
  go_wp2
  go_ret
  exact ⟨rfl, rfl⟩
set_option maxHeartbeats 4000000 in
set_option maxRecDepth 100000 in
theorem twiceS_one {w : World} {a : Addr} {c : Nat} (x : List UInt8) (hx : x.length ≤ 1000) (hc : w.cell? a = some (strV x)) (ha : a.block < w.heap.size) : Calls Tryz.prog 62 #[.slice (some a) 1 c, .func (.func 63) #[] #[]] w fun e w' => e = .returned (.bool false) ∧ Below w.heap.size w w' := by
  have hmm := fun n w => run_makeMap_hint (P := Tryz.prog) Tryz.underlying169 n w
  have hb := (Below.refl _ w).alloc (Nat.le_refl _) (.map #[] 0)
  have m0 := MapIs.made Tryz.prog 9 w
  have hz : ∀ w, (zeroValue 3).run Tryz.prog w = .ok (.int .i64 0) w := fun w => by kernel_rfl
  have hkey : keyOf Tryz.prog 9 (.string ⟨x.toArray⟩) = some (.string x) := keyOf_string_mk Tryz.underlying9 (by unfold maxLen; show x.toArray.size ≤ _; simp; omega)
  have hl1 := m0.look keyS Tryz.underlying169 (hz _) hkey false
  simp only [] at hl1
  haveI : DecidableEq Value := fun _ _ => Classical.propDecidable _
  have HK := Lib.hid hkey
  have HB := Lib.hid hb
  have hc1 := (hb.cell (p := a) ha).trans hc
  have ha0 : a.add 0 = a := by simp [Addr.add]
  clear hkey
  go_enter Tryz.func62, Tryz.ntmps62
  go_wp2_with fail
  generalize w.alloc (.map #[] 0) = W1 at *
  go_loopw [13] (fun i wr => ∃ k : Nat, i = .int .i64 k ∧ k ≤ 1 ∧ Below w.heap.size w wr ∧ (k = 0 → wr = W1) ∧ (k = 1 → ∃ e cl, wr.heap[w.heap.size]? = some (.map #[e] cl))) (fun i _ => 1 - (intOf i).toNat)
  case atStart => exact ⟨0, rfl, by omega, HB.out, fun _ => rfl, fun h => by omega⟩
  case round =>
    obtain ⟨k, rfl, hk, hbr, h0, h1⟩ := hrel
    by_cases hk0 : k = 0
    · subst hk0
      obtain rfl := h0 rfl
      clear h0 h1
      go_wp2_with fail
      refine (itself_any _ _).mono ?_
      rintro e w' ⟨rfl, rfl⟩
      go_wp2_with (at_mapUpdate; go_must (refine wpList_mapset rfl _ _ _ _ (.inl rfl) keyS Tryz.underlying169 rfl m0 _ _ _ rfl rfl HK.out (fun y => if y = strV x then some (.int .i64 1) else none) (if_pos rfl) (fun y hy => if_neg hy) ?_))
      intro w2 m2 gr2
      have hb2 := HB.out.grown gr2 HB.out.size (fun q hq => by injection hq with hq; omega)
      have h1 : ∃ e cl, w2.heap[w.heap.size]? = some (.map #[e] cl) := by
        obtain ⟨es, cl, h1, h2, _, _, _, h3⟩ := m2
        obtain ⟨e, he, _⟩ := h3 (strV x) (.int .i64 1) (by simp)
        refine ⟨e, cl, h1.trans ?_⟩
        congr 2
        have h4 : es.toList.length ≤ 1 := by simpa using h2
        cases h5 : es.toList with
        | nil => rw [h5] at he; cases he
        | cons y l =>
          rw [h5] at he h4
          cases l with
          | nil =>
            rw [List.mem_singleton] at he
            subst he
            exact Array.toList_inj.1 (by simpa using h5)
          | cons z l => simp at h4
      clear m2 gr2
      go_wp2
      go_roundw
      case rel => exact ⟨1, by go_num, by omega, hb2, (fun h => by omega), fun _ => h1⟩
      case measure => simp [intOf]
    · obtain rfl : k = 1 := by omega
      obtain ⟨e, cl, hm⟩ := h1 rfl
      have hlen := len_map hm
      simp only [List.size_toArray, List.length_cons, List.length_nil] at hlen
      clear h0 h1
      go_wp2
      go_ret
      exact ⟨rfl, hbr⟩
def polV (T : Addr) (cT : Nat) (U : Option Addr) (cU : Nat) : Value := .agg #[.slice (some T) 1 cT, .slice none 0 0, .slice U 0 cU]
def noneAl : Value := .agg #[.string ⟨#[]⟩, .slice none 0 0, .slice none 0 0]
theorem ret_al {f : Func} {p u : Tmp} (h : f.results = #[.cell p 130, .tmp u]) {a : Act} {w : World} {g : Nat} {v0 v1 v2 x : Value} {R : Ending → World → Prop} (hp : a.tmps.getD p undef = .pointer (some ⟨g, 0, none⟩)) (hx : a.tmps.getD u undef = x) (hd : a.defers = [])
    (hg : w.heap[g]? = some (.cells #[v0, v1, v2] 130 (0, 0))) (hR : R (.returned (.tuple #[.agg #[v0, v1, v2], x])) w) : bodyPost Tryz.prog f R .ret a w := by
  have hc := fun j => Lib.cell_of_heap hg j
  have c0 := hc 0
  have c1 := hc 1
  have c2 := hc 2
  simp only [List.getElem?_toArray, List.getElem?_cons_zero, List.getElem?_cons_succ] at c0 c1 c2
  refine bodyPost_ret (v := .tuple #[.agg #[v0, v1, v2], x]) ?_ hd hR
  rw [results_cell_tmp h, hp, hx]
  go_simp
set_option maxHeartbeats 1000000 in
set_option maxRecDepth 100000 in
theorem Find_none {w : World} (A B : Option Addr) (n m c d c' : Nat) (x : Value) : Calls Tryz.prog 90 #[.agg #[.slice A n c, .slice none 0 c', .slice B m d], x] w fun e w' => e = .returned (.tuple #[noneAl, .bool false]) ∧ Below w.heap.size w w' := by
  go_enter Tryz.func90, Tryz.ntmps90
  go_wp2_with fail
  refine wp_loop_rounds 1 ?_
  rw [rounds_succ]
  go_wp2
  have h1 := heap_alloc_new (w.alloc (.cells #[.slice A n c, .slice none 0 c', .slice B m d] 75)) (.cells #[.string ⟨#[]⟩, .slice none 0 0, .slice none 0 0] 130)
  rw [World.size_alloc] at h1
  exact ret_al rfl rfl rfl rfl h1 ⟨rfl, ((Below.refl _ w).alloc (Nat.le_refl _) _).alloc (by rw [World.size_alloc]; omega) _⟩
set_option maxHeartbeats 4000000 in
set_option maxRecDepth 100000 in
theorem listed_one {w : World} {T : Addr} {U : Option Addr} {cT cU : Nat} (hT : w.cell? T = some (strV wText)) (hb : T.block < w.heap.size) : Calls Tryz.prog 64 #[polV T cT U cU, .slice (some T) 1 cT] w fun e w' => e = .returned (.bool true) ∧ Below w.heap.size w w' := by
  have b1 := (Below.refl _ w).alloc (Nat.le_refl _) (.cells #[.slice (some T) 1 cT, .slice none 0 0, .slice U 0 cU] 75)
  have t1 := (b1.cell (p := T) hb).trans hT
  have hx := heap_alloc_new w (.cells #[.slice (some T) 1 cT, .slice none 0 0, .slice U 0 cU] 75)
  have hT0 : T.add 0 = T := by simp [Addr.add]
  have HT := Lib.hid hT
  clear hT
  unfold polV
  go_enter Tryz.func64, Tryz.ntmps64
  go_wp2_with fail
  refine wp_loop_rounds 2 ?_
  rw [rounds_succ]
  go_wp2_with fail
  refine (Find_none _ _ _ _ _ _ _ _).mono ?_
  rintro e W2 ⟨rfl, b2⟩
  have b12 := bt b1 b2
  have b3 := b12.alloc b12.size (.cells #[.string ⟨#[]⟩, .slice none 0 0, .slice none 0 0] 130)
  have HB := Lib.hid b3
  have HTW := Lib.hid (twiceS_one (c := cT) wText (by decide) ((b3.cell (p := T) hb).trans HT.out) (Nat.lt_of_lt_of_le hb b3.size))
  unfold noneAl
  clear b1 b2 b12 b3 t1 hx
  go_wp2_with fail
  rw [rounds_succ]
  go_wp2_with fail
  refine HTW.out.mono ?_
  rintro e W3 ⟨rfl, b4⟩
  go_wp2
  go_ret
  exact ⟨rfl, bt HB.out b4⟩
end Go.Proofs.YtnkelhmjkmeilaaGreatDoor.H
end
section
namespace Go.Proofs.YtnkelhmjkmeilaaGreatDoor.H
open Go.RowKit
attribute [local go_sem ↓] Go.wp_at_zero Go.wp_at_succ
set_option maxHeartbeats 4000000 in
set_option maxRecDepth 100000 in
theorem May_one {w : World} {T : Addr} {U : Option Addr} {cT cU : Nat} (hT : w.cell? T = some (strV wText)) (hb : T.block < w.heap.size) : Calls Tryz.prog 43 #[polV T cT U cU] w fun e w' => e = .returned (.int .i64 0) ∧ Below w.heap.size w w' := by
  have b1 := (Below.refl _ w).alloc (Nat.le_refl _) (.cells #[.slice (some T) 1 cT, .slice none 0 0, .slice U 0 cU] 75)
  have hx := heap_alloc_new w (.cells #[.slice (some T) 1 cT, .slice none 0 0, .slice U 0 cU] 75)
  have hl := (Array.getElem?_eq_some_iff.1 hx).1
  have HT := Lib.hid hT
  have HX := Lib.hid hx
  clear hT hx
  unfold polV
  go_enter Tryz.func43, Tryz.ntmps43
  go_upto_region 3 with fail
  generalize w.alloc (.cells #[.slice (some T) 1 cT, .slice none 0 0, .slice U 0 cU] 75) = W1 at *
  have HL : Hid (∀ W, Below W1.heap.size W1 W → W.cell? ⟨w.heap.size, 0, none⟩ = some (.slice (some T) 1 cT) ∧ W.cell? ⟨w.heap.size, 1, none⟩ = some (.slice none 0 0) ∧ W.cell? ⟨w.heap.size, 2, none⟩ = some (.slice U 0 cU)) := Lib.hid fun W h => by
    have h1 := (h.block _ hl).trans HX.out
    have z0 := Lib.cell_of_heap h1 0
    have z1 := Lib.cell_of_heap h1 1
    have z2 := Lib.cell_of_heap h1 2
    simp only [List.getElem?_toArray, List.getElem?_cons_zero, List.getElem?_cons_succ] at z0 z1 z2
    exact ⟨z0, z1, z2⟩
  obtain ⟨p0, p1, p2⟩ := HL.out W1 (Below.refl _ _)
  go_wp2_with fail
  refine (twiceA_none _ _).mono ?_
  rintro e W2 ⟨rfl, b2⟩
  clear p0 p1 p2
  obtain ⟨p0, p1, p2⟩ := HL.out W2 b2
  go_wp2_with fail
  refine (twiceS_none _ _).mono ?_
  rintro e W3 ⟨rfl, b3⟩
  clear p0 p1 p2
  have b13 := bt b2 b3
  have HB := Lib.hid (bt b1 b13)
  obtain ⟨p0, p1, p2⟩ := HL.out W3 b13
  have HLi := Lib.hid (listed_one (U := U) (cT := cT) (cU := cU) ((HB.out.cell (p := T) hb).trans HT.out) (Nat.lt_of_lt_of_le hb HB.out.size))
  unfold polV at HLi
  clear b2 b3
  go_wp2_with fail
  refine HLi.out.mono ?_
  rintro e W4 ⟨rfl, b4⟩
  clear p0 p1 p2
  have b14 := bt b13 b4
  have HB4 := Lib.hid (bt HB.out b4)
  obtain ⟨p0, p1, p2⟩ := HL.out W4 b14
  clear b13 b4 b14 HLi b1
  go_wp2_with fail
  refine wp_loop_rounds 1 ?_
  rw [rounds_succ]
  go_wp2_with fail
  refine wp_loop_rounds 1 ?_
  rw [rounds_succ]
  go_wp2_with fail
  refine wp_loop_rounds 1 ?_
  rw [rounds_succ]
  go_wp2
  go_ret
  exact ⟨rfl, HB4.out⟩
end Go.Proofs.YtnkelhmjkmeilaaGreatDoor.H
end
