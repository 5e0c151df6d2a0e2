/- A queue of steps in memory; cmp.Compare, cmp.Or, the queue's Less. A queue of steps in memory: a step stored; Swap. -/
import Derived.Deep.DeepCutAuto
import Derived.Deep.DrawnRows
import Derived.Deep.MidRow
import Derived.Deep.RegionHeld3
import Derived.Deep.RegionLaw
import Derived.IntWalk
import Derived.Test.YtnkelhmjkmeilaaGreatDoorT09
import Derived.Test.YtnkelhmjkmeilaaGreatDoorT07
section
namespace Go.Proofs.YtnkelhmjkmeilaaGreatDoor.H
open Go.RowKit Go.Maps Go.WideMaps
attribute [local go_sem ↓] Go.wp_at_zero Go.wp_at_succ
def stC (s : Stp) : List Value := [.int .i64 (s.num : Int), .int .i64 (s.st : Int), .int .i64 (s.cost : Int), .int .i64 s.frm, .int .i64 s.tree]
def stCs : List Stp → List Value
  | [] => []
  | s :: q => stC s ++ stCs q
theorem stC_length (s : Stp) : (stC s).length = 5 := rfl
theorem stCs_length (q : List Stp) : (stCs q).length = q.length * 5 := by
  induction q with
  | nil => rfl
  | cons s q ih => rw [stCs, List.length_append, stC_length, ih, List.length_cons]; omega
theorem stCs_append (q r : List Stp) : stCs (q ++ r) = stCs q ++ stCs r := by
  induction q with
  | nil => rfl
  | cons s q ih => rw [List.cons_append, stCs, stCs, ih, List.append_assoc]
theorem stCs_at : ∀ {q : List Stp} {k : Nat} (hk : k < q.length) (j : Nat), j < 5 → (stCs q)[k * 5 + j]? = (stC q[k])[j]?
  | [], k, hk, _, _ => by simp at hk
  | s :: q, 0, _, j, hj => by rw [stCs, List.getElem?_append_left (by rw [stC_length]; omega), Nat.zero_mul, Nat.zero_add, List.getElem_cons_zero]
  | s :: q, k + 1, hk, j, hj => by
    rw [stCs, List.getElem?_append_right (by rw [stC_length]; omega), stC_length, show (k + 1) * 5 + j - 5 = k * 5 + j by omega, stCs_at (by simpa using hk) j hj, List.getElem_cons_succ]
theorem compare_any (x y : Int) (w : World) : Calls Tryz.prog 301 #[.int .i64 x, .int .i64 y] w fun e w' => e = .returned (.int .i64 (cmpI x y)) ∧ w = w' := by
  have hn : ∀ (z : Int) (w : World), Calls Tryz.prog 260 #[.int .i64 z] w fun e w' => e = .returned (.bool false) ∧ w = w' := by
    intro z w
    go_enter Tryz.func260, Tryz.ntmps260
    go_wp2
    go_ret
    exact ⟨rfl, rfl⟩
  rcases Int.lt_trichotomy x y with h | h | h
  · have hc : cmpI x y = -1 := by unfold cmpI; rw [if_pos h]
    rw [hc]
    go_enter Tryz.func301, Tryz.ntmps301
    go_wp2_with (first | (go_at_call 260; refine (hn _ _).mono ?_; rintro e w' ⟨rfl, rfl⟩))
    go_ret
    exact ⟨rfl, rfl⟩
  · subst h
    have hc : cmpI x x = 0 := by unfold cmpI; simp
    rw [hc]
    go_enter Tryz.func301, Tryz.ntmps301
    go_wp2_with (first | (go_at_call 260; refine (hn _ _).mono ?_; rintro e w' ⟨rfl, rfl⟩))
    go_ret
    exact ⟨rfl, rfl⟩
  · have hc : cmpI x y = 1 := by unfold cmpI; rw [if_neg (by omega), if_pos h]
    have h' : ¬ x < y := by omega
    rw [hc]
    go_enter Tryz.func301, Tryz.ntmps301
    go_wp2_with (first | (go_at_call 260; refine (hn _ _).mono ?_; rintro e w' ⟨rfl, rfl⟩))
    go_ret
    exact ⟨rfl, rfl⟩
def ints (l : List Int) : List Value := l.map fun i => .int .i64 i
theorem ints_length (l : List Int) : (ints l).length = l.length := by simp [ints]
theorem ints_at {l : List Int} {k : Nat} (hk : k < l.length) : (ints l)[k]? = some (.int .i64 l[k]) := by simp [ints, hk]
theorem orL_zero : ∀ {l : List Int}, (∀ x ∈ l, x = 0) → orL l = 0
  | [], _ => rfl
  | x :: l, h => by rw [orL, if_pos (h x (by simp)), orL_zero fun y hy => h y (by simp [hy])]
theorem orL_drop : ∀ {l : List Int} {k : Nat} (hk : k < l.length), (∀ j, (hj : j < k) → l[j] = 0) → l[k] ≠ 0 → orL l = l[k]
  | x :: l, 0, _, _, h => by
    simp only [List.getElem_cons_zero] at h ⊢
    rw [orL, if_neg h]
  | x :: l, k + 1, hk, h0, h => by
    have hx := h0 0 (by omega)
    simp only [List.getElem_cons_zero] at hx
    rw [orL, if_pos hx]
    simp only [List.getElem_cons_succ] at h ⊢
    exact orL_drop (by simpa using hk) (fun j hj => by have := h0 (j + 1) (by omega); simpa using this) h
set_option maxHeartbeats 1000000 in
theorem or_any {w : World} {A : Option Addr} {c : Nat} {l : List Int} (hR : Rd w w.heap.size 1 A l.length (ints l)) (hl : l.length ≤ 1000) :
    Calls Tryz.prog 300 #[.slice A l.length c] w fun e w' => e = .returned (.int .i64 (orL l)) ∧ w = w' := by
  go_enter Tryz.func300, Tryz.ntmps300
  go_wp2
  go_loop [8] (fun iv => ∃ k : Nat, iv = .int .i64 k ∧ k ≤ l.length ∧ Hid (∀ j, (hj : j < l.length) → j < k → l[j] = 0)) (fun iv => l.length - (intOf iv).toNat)
  case atStart => exact ⟨0, rfl, Nat.zero_le _, fun j _ hj => by omega⟩
  case round =>
    obtain ⟨k, rfl, hk, h0⟩ := hrel
    by_cases hlt : k < l.length
    · obtain ⟨a, u, rfl, hab, hu, hca⟩ := hR.at_ hlt
      rw [ints_at hlt] at hu
      injection hu with hu
      subst hu
      by_cases hz : l[k] = 0
      · have H0 := Lib.hid (show ∀ j, (hj : j < l.length) → j < k + 1 → l[j] = 0 from fun j hj hjk => by
          rcases Nat.lt_or_ge j k with h | h
          · exact h0.out j hj h
          · obtain rfl : j = k := by omega
            exact hz)
        have hz1 : (l[k] == 0) = true := by simp [hz]
        have hz2 : (l[k] != 0) = false := by simp [hz]
        generalize l[k] = x at *
        clear hz
        clear hR
        go_wp2
        go_round
        case rel => exact ⟨k + 1, by go_num, by omega, H0.out⟩
        case measure => simp [intOf]; omega
      · have HR := Lib.hid (orL_drop hlt (fun j hj => h0.out j (by omega) hj) hz)
        generalize l[k] = x at *
        have hz1 : (x == 0) = false := by simp [hz]
        have hz2 : (x != 0) = true := by simp [hz]
        clear hR
        go_wp2
        go_ret
        exact ⟨ret_int (by rw [HR.out]), rfl⟩
    · have HR := Lib.hid (orL_zero (l := l) fun x hx => by
        obtain ⟨j, hj, rfl⟩ := List.mem_iff_getElem.1 hx
        exact h0.out j hj (by omega))
      go_wp2
      go_ret
      exact ⟨ret_int (by rw [HR.out]), rfl⟩
theorem or_new (W : World) (l : List Int) (c : Nat) (hl : l.length ≤ 1000) : Calls Tryz.prog 300 #[.slice (some ⟨W.heap.size, 0, none⟩) l.length c] (W.alloc (.cells (ints l).toArray 3)).drew fun e w' => e = .returned (.int .i64 (orL l)) ∧ (W.alloc (.cells (ints l).toArray 3)).drew = w' :=
  or_any ⟨by rw [ints_length, Nat.mul_one], fun _ => ⟨_, rfl, by show W.heap.size < (W.alloc _).heap.size; rw [World.size_alloc]; omega, fun j u hu => World.news_of_block (w := (W.alloc _).drew) (fr := (0, 0)) (heap_alloc_new W (.cells (ints l).toArray 3)) j u (by simpa using hu)⟩⟩ hl
set_option maxHeartbeats 2000000 in
set_option maxRecDepth 100000 in
theorem less_any {w : World} {A : Option Addr} {c i j : Nat} {q : List Stp} (hR : Rd w w.heap.size 5 A q.length (stCs q)) (hi : i < q.length) (hj : j < q.length) :
    Calls Tryz.prog 298 #[.slice A q.length c, .int .i64 i, .int .i64 j] w fun e w' => e = .returned (.bool (ltS q[i] q[j])) ∧ Below w.heap.size w w' := by
  have hl := stCs_length q
  obtain ⟨a, rfl, hab, hc⟩ := hR.2 (by intro e; rw [e] at hl; simp at hl; omega)
  have hcell : ∀ {k : Nat} (hk : k < q.length) (w' : World), Below w.heap.size w w' → w'.cell? (a.add (k * 5)) = some (.int .i64 (q[k].num : Int)) ∧ w'.cell? ⟨(a.add (k * 5)).block, (a.add (k * 5)).off + 1, none⟩ = some (.int .i64 (q[k].st : Int)) ∧
      w'.cell? ⟨(a.add (k * 5)).block, (a.add (k * 5)).off + 2, none⟩ = some (.int .i64 (q[k].cost : Int)) ∧ w'.cell? ⟨(a.add (k * 5)).block, (a.add (k * 5)).off + 3, none⟩ = some (.int .i64 q[k].frm) ∧ w'.cell? ⟨(a.add (k * 5)).block, (a.add (k * 5)).off + 4, none⟩ = some (.int .i64 q[k].tree) := by
    intro k hk w' hw'
    have hb : (a.add (k * 5)).block < w.heap.size := by rw [block_add]; exact hab
    have hx : ∀ o u, 0 < o → o < 5 → (stC q[k])[o]? = some u → w'.cell? ⟨(a.add (k * 5)).block, (a.add (k * 5)).off + o, none⟩ = some u := fun o u h0 ho hu => by
      rw [hw'.cell (p := ⟨(a.add (k * 5)).block, (a.add (k * 5)).off + o, none⟩) hb, ← add_pos _ o h0, add_add]
      exact hc _ u ((stCs_at hk o ho).trans hu)
    exact ⟨(hw'.cell hb).trans (hc _ _ ((stCs_at hk 0 (by omega)).trans rfl)), hx 1 _ (by omega) (by omega) rfl, hx 2 _ (by omega) (by omega) rfl, hx 3 _ (by omega) (by omega) rfl, hx 4 _ (by omega) (by omega) rfl⟩
  obtain ⟨i0, i1, i2, i3, i4⟩ := hcell hi w (Below.refl _ _)
  obtain ⟨j0, j1, j2, j3, j4⟩ := hcell hj w (Below.refl _ _)
  have hiI : (i : Int) < (q.length : Int) := by omega
  have hjI : (j : Int) < (q.length : Int) := by omega
  have hi0 : (0 : Int) ≤ (i : Int) := by omega
  have hj0 : (0 : Int) ≤ (j : Int) := by omega
  clear hcell hc hR hl
  generalize q[i] = s at *
  generalize q[j] = t at *
  go_enter Tryz.func298, Tryz.ntmps298
  go_upto_region 1 with fail
  go_cut [7, 8] (fun s7 s8 wx => ∃ g1 g2 : Nat, s7 = .pointer (some ⟨g1, 0, none⟩) ∧ s8 = .pointer (some ⟨g2, 0, none⟩) ∧ wx.heap[g1]? = some (.cells (stC s).toArray 200 (0, 0)) ∧ wx.heap[g2]? = some (.cells (stC t).toArray 200 (0, 0)) ∧ Below w.heap.size w wx)
  case first =>
    go_region_held3 (fun w' => w'.cell? (a.add (i * 5)) = some (.int .i64 (s.num : Int)) ∧ w'.cell? ⟨(a.add (i * 5)).block, (a.add (i * 5)).off + 1, none⟩ = some (.int .i64 (s.st : Int)) ∧ w'.cell? ⟨(a.add (i * 5)).block, (a.add (i * 5)).off + 2, none⟩ = some (.int .i64 (s.cost : Int)) ∧ w'.cell? ⟨(a.add (i * 5)).block, (a.add (i * 5)).off + 3, none⟩ = some (.int .i64 s.frm) ∧ w'.cell? ⟨(a.add (i * 5)).block, (a.add (i * 5)).off + 4, none⟩ = some (.int .i64 s.tree) ∧
      w'.cell? (a.add (j * 5)) = some (.int .i64 (t.num : Int)) ∧ w'.cell? ⟨(a.add (j * 5)).block, (a.add (j * 5)).off + 1, none⟩ = some (.int .i64 (t.st : Int)) ∧ w'.cell? ⟨(a.add (j * 5)).block, (a.add (j * 5)).off + 2, none⟩ = some (.int .i64 (t.cost : Int)) ∧ w'.cell? ⟨(a.add (j * 5)).block, (a.add (j * 5)).off + 3, none⟩ = some (.int .i64 t.frm) ∧ w'.cell? ⟨(a.add (j * 5)).block, (a.add (j * 5)).off + 4, none⟩ = some (.int .i64 t.tree))
      (go_keep)
      (fail)
    all_goals
      go_wp2_with fail
      go_meet
      have h1 := heap_alloc_new (w.alloc (.cells (stC t).toArray 200)) (.cells (stC s).toArray 200)
      have h2 := heap_alloc_new (w.alloc (.cells (stC s).toArray 200)) (.cells (stC t).toArray 200)
      rw [World.size_alloc] at h1 h2
      first
        | exact ⟨_, _, rfl, rfl, h1, (Below.heap_alloc _ _ _ (by simp)).trans (heap_alloc_new w _), Below.drew (((Below.refl _ w).alloc (Nat.le_refl _) _).alloc (by simp) _)⟩
        | exact ⟨_, _, rfl, rfl, (Below.heap_alloc _ _ _ (by simp)).trans (heap_alloc_new w _), h2, Below.drew (((Below.refl _ w).alloc (Nat.le_refl _) _).alloc (by simp) _)⟩
  case rest =>
    obtain ⟨g1, g2, rfl, rfl, h1, h2, b1⟩ := hcut
    rename World => W1
    have hl1 := (Array.getElem?_eq_some_iff.1 h1).1
    have hl2 := (Array.getElem?_eq_some_iff.1 h2).1
    have a0 := Lib.cell_of_heap h1 0
    have a1 := Lib.cell_of_heap h1 1
    have a2 := Lib.cell_of_heap h1 2
    have a3 := Lib.cell_of_heap h1 3
    have a4 := Lib.cell_of_heap h1 4
    have b0 := Lib.cell_of_heap h2 0
    have b1' := Lib.cell_of_heap h2 1
    have b2 := Lib.cell_of_heap h2 2
    have b3 := Lib.cell_of_heap h2 3
    have b4 := Lib.cell_of_heap h2 4
    simp only [stC, List.getElem?_toArray, List.getElem?_cons_zero, List.getElem?_cons_succ] at a0 a1 a2 a3 a4 b0 b1' b2 b3 b4
    clear i0 i1 i2 i3 i4 j0 j1 j2 j3 j4 h1 h2
    go_wp2
    go_region_held3 (fun w' => w'.cell? ⟨g1, 0, none⟩ = some (.int .i64 (s.num : Int)) ∧ w'.cell? ⟨g1, 1, none⟩ = some (.int .i64 (s.st : Int)) ∧ w'.cell? ⟨g1, 2, none⟩ = some (.int .i64 (s.cost : Int)) ∧ w'.cell? ⟨g1, 3, none⟩ = some (.int .i64 s.frm) ∧ w'.cell? ⟨g1, 4, none⟩ = some (.int .i64 s.tree) ∧
        w'.cell? ⟨g2, 0, none⟩ = some (.int .i64 (t.num : Int)) ∧ w'.cell? ⟨g2, 1, none⟩ = some (.int .i64 (t.st : Int)) ∧ w'.cell? ⟨g2, 2, none⟩ = some (.int .i64 (t.cost : Int)) ∧ w'.cell? ⟨g2, 3, none⟩ = some (.int .i64 t.frm) ∧ w'.cell? ⟨g2, 4, none⟩ = some (.int .i64 t.tree))
      (go_keep)
      (first
        | (go_at_call 301; refine (compare_any _ _ _).mono ?_; rintro e w' ⟨rfl, rfl⟩)
        | (go_at_call 300; refine (or_new _ [cmpI s.cost t.cost, cmpI s.num t.num, cmpI s.st t.st, cmpI s.frm t.frm, cmpI s.tree t.tree] _ (of_decide_eq_true rfl)).mono ?_; rintro e w' ⟨rfl, rfl⟩))
    all_goals
      go_wp2
      go_ret
      refine ⟨ret_bool ?_, ?_⟩
      · rfl
      · exact Below.drew (b1.trans (((Below.refl _ W1).alloc (Nat.le_refl _) _).mono b1.size))
end Go.Proofs.YtnkelhmjkmeilaaGreatDoor.H
end
section
namespace Go.Proofs.YtnkelhmjkmeilaaGreatDoor.H
open Go.RowKit Go.Maps Go.WideMaps
attribute [local go_sem ↓] Go.wp_at_zero Go.wp_at_succ
theorem heap_set_other {w : World} {p : Addr} {u : Value} {q : Nat} (h : q ≠ p.block) : (w.setCell p u).heap[q]? = w.heap[q]? := Below.heap_setCell w p u q h
theorem size_set {w : World} {p : Addr} {u : Value} : (w.setCell p u).heap.size = w.heap.size := by simp [World.setCell]
theorem one_set {w : World} {R o : Nat} {arr : Array Value} {e : TypeId} (h : w.heap[R]? = some (.cells arr e (0, 0))) (ho : o < arr.size) (v : Value) :
    ∃ W arr', W = w.setCell ⟨R, o, none⟩ v ∧ W.heap[R]? = some (.cells arr' e (0, 0)) ∧ arr'.size = arr.size ∧ (∀ i, i ≠ o → arr'[i]? = arr[i]?) ∧ arr'[o]? = some v ∧ (∀ q, q ≠ R → W.heap[q]? = w.heap[q]?) ∧ W.heap.size = w.heap.size ∧ (w.grownBy W (some R)) := by
  refine ⟨_, _, rfl, heap_setCell_same w R o arr e v h, by simp, fun i hi => ?_, by simp [ho], fun q hq => heap_set_other (p := ⟨R, o, none⟩) hq, size_set, ⟨rfl, rfl, rfl, by rw [size_set]; exact Nat.le_refl _, fun k _ hk => heap_set_other (p := ⟨R, o, none⟩) (fun e => hk (by rw [e]))⟩⟩
  rw [Array.getElem?_setIfInBounds, if_neg (fun e => hi e.symm)]
theorem grown_trans {w w' w'' : World} {r : Option Nat} (h : w.grownBy w' r) (h' : w'.grownBy w'' r) : w.grownBy w'' r :=
  ⟨h'.os.trans h.os, h'.tape.trans h.tape, h'.output.trans h.output, Nat.le_trans h.size h'.size, fun k hk hn => (h'.block k (Nat.lt_of_lt_of_le hk h.size) hn).trans (h.block k hk hn)⟩
theorem grown_drew {w w' : World} {r : Option Nat} (h : w.grownBy w' r) : w.grownBy w'.drew r := ⟨h.os, h.tape, h.output, h.size, h.block⟩
theorem drew_size (w : World) : w.drew.heap.size = w.heap.size := rfl
theorem grown_refl (w : World) (r : Option Nat) : w.grownBy w r := ⟨rfl, rfl, rfl, Nat.le_refl _, fun _ _ _ => rfl⟩
theorem own_mk {w : World} {base g cap : Nat} {e : TypeId} {cur : Array Value} {q : List Stp} (hb : base ≤ g) (hg : w.heap[g]? = some (.cells cur e (0, 0))) (hn : q.length ≤ cap) (hm : cap ≤ maxLen) (hs : cur.size = cap * 5) (hat : ∀ k (hk : k < q.length) r, r < 5 → cur[k * 5 + r]? = (stC q[k])[r]?) :
    w.ownsRow base e 5 (.slice (some ⟨g, 0, none⟩) q.length cap) q.length (stCs q) := by
  refine ⟨stCs_length q, .inr ⟨g, cap, cur, rfl, hb, hg, hn, hm, hs, ?_⟩⟩
  apply List.ext_getElem?
  intro o
  rw [List.getElem?_take]
  by_cases ho : o < q.length * 5
  · rw [if_pos ho]
    have h1 := hat (o / 5) (by omega) (o % 5) (by omega)
    have h2 := stCs_at (q := q) (k := o / 5) (by omega) (o % 5) (by omega)
    rw [show o / 5 * 5 + o % 5 = o by omega] at h1 h2
    rw [h2, ← h1, Array.getElem?_toList]
  · rw [if_neg ho, List.getElem?_eq_none (by rw [stCs_length]; omega)]
theorem own_at {w : World} {base c n : Nat} {e : TypeId} {A : Option Addr} {q : List Stp} (h : w.ownsRow base e 5 (.slice A n c) n (stCs q)) (hn : 0 < n) :
    ∃ g cur, A = some ⟨g, 0, none⟩ ∧ base ≤ g ∧ w.heap[g]? = some (.cells cur e (0, 0)) ∧ n = q.length ∧ n ≤ c ∧ c ≤ maxLen ∧ cur.size = c * 5 ∧ ∀ k (hk : k < q.length) r, r < 5 → cur[k * 5 + r]? = (stC q[k])[r]? := by
  obtain ⟨h1, h2⟩ := h
  rw [stCs_length] at h1
  rcases h2 with ⟨hv, h0⟩ | ⟨g, cap, cur, hv, hb, hg, hnc, hm, hs, ht⟩
  · omega
  · injection hv with hv1 _ hv3
    subst hv1 hv3
    refine ⟨g, cur, rfl, hb, hg, by omega, hnc, hm, hs, fun k hk r hr => ?_⟩
    rw [← stCs_at hk r hr, ← ht, List.getElem?_take, if_pos (by omega), Array.getElem?_toList]
theorem setCells_five (w : World) (g o : Nat) (v0 v1 v2 v3 v4 : Value) : w.setCells g o [v0, v1, v2, v3, v4] = ((((w.setCell ⟨g, o, none⟩ v0).setCell ⟨g, o + 1, none⟩ v1).setCell ⟨g, o + 2, none⟩ v2).setCell ⟨g, o + 3, none⟩ v3).setCell ⟨g, o + 4, none⟩ v4 := by
  simp only [World.setCells]
theorem own_set {w : World} {base g c n k : Nat} {e : TypeId} {q : List Stp} (s : Stp) (h : w.ownsRow base e 5 (.slice (some ⟨g, 0, none⟩) n c) n (stCs q)) (hk : k < n) :
    (w.setCells g (k * 5) (stC s)).ownsRow base e 5 (.slice (some ⟨g, 0, none⟩) n c) n (stCs (q.set k s)) ∧ w.grownBy (w.setCells g (k * 5) (stC s)) (some g) ∧ (w.setCells g (k * 5) (stC s)).heap.size = w.heap.size := by
  obtain ⟨g', cur, hA, hb, hg, hn, hnc, hm, hs, hat⟩ := own_at h (by omega)
  injection hA with hA
  injection hA with hA
  subst hA
  have hk2 : k * 5 + 4 < cur.size := by rw [hs]; omega
  rw [stC, setCells_five]
  obtain ⟨W0, a0, e0, h0, s0, k0, t0, _, z0, b0⟩ := one_set hg (o := k * 5) (by omega) (.int .i64 (s.num : Int))
  obtain ⟨W1, a1, e1, h1, s1, k1, t1, _, z1, b1⟩ := one_set h0 (o := k * 5 + 1) (by omega) (.int .i64 (s.st : Int))
  obtain ⟨W2, a2, e2, h2, s2, k2, t2, _, z2, b2⟩ := one_set h1 (o := k * 5 + 2) (by omega) (.int .i64 (s.cost : Int))
  obtain ⟨W3, a3, e3, h3, s3, k3, t3, _, z3, b3⟩ := one_set h2 (o := k * 5 + 3) (by omega) (.int .i64 s.frm)
  obtain ⟨W4, a4, e4, h4, s4, k4, t4, _, z4, b4⟩ := one_set h3 (o := k * 5 + 4) (by omega) (.int .i64 s.tree)
  rw [← e0, ← e1, ← e2, ← e3, ← e4]
  refine ⟨?_, grown_trans (grown_trans (grown_trans (grown_trans b0 b1) b2) b3) b4, by omega⟩
  have hl : (q.set k s).length = n := by rw [List.length_set, hn]
  have := own_mk (q := q.set k s) hb h4 (by omega) hm (by omega) (fun i hi r hr => by
    rw [List.length_set] at hi
    by_cases hik : i = k
    · subst hik
      rw [List.getElem_set_self]
      match r, hr with
      | 0, _ => rw [Nat.add_zero, k4 _ (by omega), k3 _ (by omega), k2 _ (by omega), k1 _ (by omega), t0]; rfl
      | 1, _ => rw [k4 _ (by omega), k3 _ (by omega), k2 _ (by omega), t1]; rfl
      | 2, _ => rw [k4 _ (by omega), k3 _ (by omega), t2]; rfl
      | 3, _ => rw [k4 _ (by omega), t3]; rfl
      | 4, _ => rw [t4]; rfl
    · rw [List.getElem_set_ne (fun e => hik e.symm), k4 _ (by omega), k3 _ (by omega), k2 _ (by omega), k1 _ (by omega), k0 _ (by omega)]
      exact hat i hi r hr)
  rw [hl] at this
  exact this
theorem there_of {w : World} {base g c n k : Nat} {e : TypeId} {q : List Stp} (h : w.ownsRow base e 5 (.slice (some ⟨g, 0, none⟩) n c) n (stCs q)) (hk : k < n) : w.there g (k * 5) 5 := by
  obtain ⟨g', cur, hA, hb, hg, hn, hnc, hm, hs, hat⟩ := own_at h (by omega)
  injection hA with hA
  injection hA with hA
  subst hA
  intro j hj
  refine ⟨?_, Lib.frozen_of_heap hg _⟩
  rw [Lib.cell_of_heap hg, Array.getElem?_eq_getElem (by omega)]
  rfl
theorem sw_eq {q : List Stp} {i j : Nat} (hi : i < q.length) (hj : j < q.length) : sw q i j = (q.set i q[j]).set j q[i] := by unfold sw; rw [dif_pos ⟨hi, hj⟩]
theorem cell_set_some {w : World} {p a : Addr} {v : Value} (h : (w.cell? a).isSome = true) : ∃ u, (w.setCell p v).cell? a = some u := by
  obtain ⟨u, hu⟩ := Option.isSome_iff_exists.1 h
  by_cases e : p = a
  · subst e; exact ⟨v, World.cell?_setCell_same _ _ _ hu⟩
  · exact ⟨u, (World.cell?_setCell_other _ _ _ _ e).trans hu⟩
theorem some_set {w : World} {p a : Addr} {v : Value} (h : (w.cell? a).isSome = true) : ((w.setCell p v).cell? a).isSome = true := by
  obtain ⟨u, hu⟩ := cell_set_some (p := p) (v := v) h
  rw [hu]; rfl
set_option maxHeartbeats 1000000 in
set_option maxRecDepth 100000 in
theorem swap_any {w : World} {base g c i j : Nat} {q : List Stp} (h : w.ownsRow base 200 5 (.slice (some ⟨g, 0, none⟩) q.length c) q.length (stCs q)) (hi : i < q.length) (hj : j < q.length) :
    Calls Tryz.prog 299 #[.slice (some ⟨g, 0, none⟩) q.length c, .int .i64 i, .int .i64 j] w fun e w' => e = .returned (.tuple #[]) ∧ w'.ownsRow base 200 5 (.slice (some ⟨g, 0, none⟩) q.length c) q.length (stCs (sw q i j)) ∧ w.grownBy w' (some g) ∧ w'.heap.size = w.heap.size := by
  have hcell : ∀ {k : Nat} (hk : k < q.length), w.cell? ⟨g, k * 5, none⟩ = some (.int .i64 (q[k].num : Int)) ∧ w.cell? ⟨g, k * 5 + 1, none⟩ = some (.int .i64 (q[k].st : Int)) ∧
      w.cell? ⟨g, k * 5 + 2, none⟩ = some (.int .i64 (q[k].cost : Int)) ∧ w.cell? ⟨g, k * 5 + 3, none⟩ = some (.int .i64 q[k].frm) ∧ w.cell? ⟨g, k * 5 + 4, none⟩ = some (.int .i64 q[k].tree) := by
    intro k hk
    obtain ⟨g', cur, hA, hb, hg, hn, hnc, hm, hs, hat⟩ := own_at h (by omega)
    injection hA with hA
    injection hA with hA
    subst hA
    have h0 := hat k hk 0 (by omega)
    have h1 := hat k hk 1 (by omega)
    have h2 := hat k hk 2 (by omega)
    have h3 := hat k hk 3 (by omega)
    have h4 := hat k hk 4 (by omega)
    exact ⟨(Lib.cell_of_heap hg _).trans h0, (Lib.cell_of_heap hg _).trans h1, (Lib.cell_of_heap hg _).trans h2, (Lib.cell_of_heap hg _).trans h3, (Lib.cell_of_heap hg _).trans h4⟩
  obtain ⟨i0, i1, i2, i3, i4⟩ := hcell hi
  obtain ⟨j0, j1, j2, j3, j4⟩ := hcell hj
  have hiI : (i : Int) < (q.length : Int) := by omega
  have hjI : (j : Int) < (q.length : Int) := by omega
  have hi0 : (0 : Int) ≤ (i : Int) := by omega
  have hj0 : (0 : Int) ≤ (j : Int) := by omega
  have HSW := Lib.hid (sw_eq hi hj)
  have ti := there_of h hi
  have tj := there_of h hj
  have HO := Lib.hid h
  have fi0 := (ti 0 (by omega)).2
  have fi1 := (ti 1 (by omega)).2
  have fi2 := (ti 2 (by omega)).2
  have fi3 := (ti 3 (by omega)).2
  have fi4 := (ti 4 (by omega)).2
  have fj0 := (tj 0 (by omega)).2
  have fj1 := (tj 1 (by omega)).2
  have fj2 := (tj 2 (by omega)).2
  have fj3 := (tj 3 (by omega)).2
  have fj4 := (tj 4 (by omega)).2
  simp only [Nat.add_zero] at fi0 fj0
  obtain ⟨u0, k0⟩ := cell_set_some (w := w) (p := ⟨g, i * 5, none⟩) (v := (.int .i64 (q[j].num : Int))) (tj 0 (by omega)).1
  obtain ⟨u1, k1⟩ := cell_set_some (w := (w.setCell ⟨g, i * 5, none⟩ (.int .i64 (q[j].num : Int)))) (p := ⟨g, i * 5 + 1, none⟩) (v := (.int .i64 (q[j].st : Int))) (some_set (p := ⟨g, i * 5, none⟩) (v := (.int .i64 (q[j].num : Int))) (tj 1 (by omega)).1)
  obtain ⟨u2, k2⟩ := cell_set_some (w := ((w.setCell ⟨g, i * 5, none⟩ (.int .i64 (q[j].num : Int))).setCell ⟨g, i * 5 + 1, none⟩ (.int .i64 (q[j].st : Int)))) (p := ⟨g, i * 5 + 2, none⟩) (v := (.int .i64 (q[j].cost : Int))) (some_set (p := ⟨g, i * 5 + 1, none⟩) (v := (.int .i64 (q[j].st : Int))) (some_set (p := ⟨g, i * 5, none⟩) (v := (.int .i64 (q[j].num : Int))) (tj 2 (by omega)).1))
  obtain ⟨u3, k3⟩ := cell_set_some (w := (((w.setCell ⟨g, i * 5, none⟩ (.int .i64 (q[j].num : Int))).setCell ⟨g, i * 5 + 1, none⟩ (.int .i64 (q[j].st : Int))).setCell ⟨g, i * 5 + 2, none⟩ (.int .i64 (q[j].cost : Int)))) (p := ⟨g, i * 5 + 3, none⟩) (v := (.int .i64 q[j].frm)) (some_set (p := ⟨g, i * 5 + 2, none⟩) (v := (.int .i64 (q[j].cost : Int))) (some_set (p := ⟨g, i * 5 + 1, none⟩) (v := (.int .i64 (q[j].st : Int))) (some_set (p := ⟨g, i * 5, none⟩) (v := (.int .i64 (q[j].num : Int))) (tj 3 (by omega)).1)))
  obtain ⟨u4, k4⟩ := cell_set_some (w := ((((w.setCell ⟨g, i * 5, none⟩ (.int .i64 (q[j].num : Int))).setCell ⟨g, i * 5 + 1, none⟩ (.int .i64 (q[j].st : Int))).setCell ⟨g, i * 5 + 2, none⟩ (.int .i64 (q[j].cost : Int))).setCell ⟨g, i * 5 + 3, none⟩ (.int .i64 q[j].frm))) (p := ⟨g, i * 5 + 4, none⟩) (v := (.int .i64 q[j].tree)) (some_set (p := ⟨g, i * 5 + 3, none⟩) (v := (.int .i64 q[j].frm)) (some_set (p := ⟨g, i * 5 + 2, none⟩) (v := (.int .i64 (q[j].cost : Int))) (some_set (p := ⟨g, i * 5 + 1, none⟩) (v := (.int .i64 (q[j].st : Int))) (some_set (p := ⟨g, i * 5, none⟩) (v := (.int .i64 (q[j].num : Int))) (tj 4 (by omega)).1))))
  simp only [Nat.add_zero] at k0
  clear hcell h
  generalize q[i] = s at *
  generalize q[j] = t at *
  go_enter Tryz.func299, Tryz.ntmps299
  go_wp2
  go_region
  all_goals
    have h1 := own_set t HO.out hi
    have h2 := own_set s h1.1 hj
    have hE : ((w.setCells g (i * 5) (stC t)).setCells g (j * 5) (stC s)) = (((((((((w.setCell ⟨g, i * 5, none⟩ (.int .i64 (t.num : Int))).setCell ⟨g, i * 5 + 1, none⟩ (.int .i64 (t.st : Int))).setCell ⟨g, i * 5 + 2, none⟩ (.int .i64 (t.cost : Int))).setCell ⟨g, i * 5 + 3, none⟩ (.int .i64 t.frm)).setCell ⟨g, i * 5 + 4, none⟩ (.int .i64 t.tree)).setCell ⟨g, j * 5, none⟩ (.int .i64 (s.num : Int))).setCell ⟨g, j * 5 + 1, none⟩ (.int .i64 (s.st : Int))).setCell ⟨g, j * 5 + 2, none⟩ (.int .i64 (s.cost : Int))).setCell ⟨g, j * 5 + 3, none⟩ (.int .i64 s.frm)).setCell ⟨g, j * 5 + 4, none⟩ (.int .i64 s.tree) := by
      rw [stC, stC, setCells_five, setCells_five]
    rw [hE, ← HSW.out] at h2
    exact bodyPost_end (results_none rfl _ _ _) rfl ⟨rfl, h2.1.drew, grown_drew (grown_trans h1.2.1 h2.2.1), (drew_size _).trans (h2.2.2.trans h1.2.2)⟩
end Go.Proofs.YtnkelhmjkmeilaaGreatDoor.H
end
