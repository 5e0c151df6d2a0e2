/- A queue of steps in memory; cmp.Compare, cmp.Or, the queue's Less. -/
import Derived.Test.YtbipdnnalhdoaaaHa
import Derived.Test.YtbipdnnalhdoaaaOw
import Derived.Deep.DeepCutAuto
import Derived.Deep.DrawnRows
import Derived.Deep.RegionHeld3
import Derived.Deep.RegionLaw
import Derived.IntWalk
namespace Go.Proofs.Ytbipdnnalhdoaaa
open Go.RowKit Go.Maps Go.WideMaps
attribute [local go_sem ↓] Go.wp_at_zero Go.wp_at_succ

def stC (s : Stp) : List Value := [.int .i64 (s.num : Int), .int .i64 (s.st : Int), .int .i64 (s.cost : Int), .int .i64 s.frm, .int .i64 s.tree]
def stCs : List Stp → List Value
  | [] => []
  | s :: q => stC s ++ stCs q
theorem stC_length (s : Stp) : (stC s).length = 5 := rfl
theorem stCs_length (q : List Stp) : (stCs q).length = q.length * 5 := by
  induction q with
  | nil => rfl
  | cons s q ih => rw [stCs, List.length_append, stC_length, ih, List.length_cons]; omega
theorem stCs_append (q r : List Stp) : stCs (q ++ r) = stCs q ++ stCs r := by
  induction q with
  | nil => rfl
  | cons s q ih => rw [List.cons_append, stCs, stCs, ih, List.append_assoc]
theorem stCs_one (q : List Stp) : ∀ u ∈ stCs q, u.oneCell' = true := by
  induction q with
  | nil => intro u hu; cases hu
  | cons s q ih =>
    intro u hu
    rw [stCs, List.mem_append] at hu
    rcases hu with hu | hu
    · simp only [stC, List.mem_cons, List.not_mem_nil, or_false] at hu
      rcases hu with rfl | rfl | rfl | rfl | rfl <;> rfl
    · exact ih u hu
theorem stCs_at : ∀ {q : List Stp} {k : Nat} (hk : k < q.length) (j : Nat), j < 5 → (stCs q)[k * 5 + j]? = (stC q[k])[j]?
  | [], k, hk, _, _ => by simp at hk
  | s :: q, 0, _, j, hj => by rw [stCs, List.getElem?_append_left (by rw [stC_length]; omega), Nat.zero_mul, Nat.zero_add, List.getElem_cons_zero]
  | s :: q, k + 1, hk, j, hj => by
    rw [stCs, List.getElem?_append_right (by rw [stC_length]; omega), stC_length, show (k + 1) * 5 + j - 5 = k * 5 + j by omega, stCs_at (by simpa using hk) j hj, List.getElem_cons_succ]

theorem compare_any (x y : Int) (w : World) : Calls Try.prog 82 #[.int .i64 x, .int .i64 y] w fun e w' => e = .returned (.int .i64 (cmpI x y)) ∧ w = w' := by
  have hn : ∀ (z : Int) (w : World), Calls Try.prog 83 #[.int .i64 z] w fun e w' => e = .returned (.bool false) ∧ w = w' := by
    intro z w
    go_enter Try.func83, Try.ntmps83
    go_wp2
    go_ret
    exact ⟨rfl, rfl⟩
  rcases Int.lt_trichotomy x y with h | h | h
  · have hc : cmpI x y = -1 := by unfold cmpI; rw [if_pos h]
    rw [hc]
    go_enter Try.func82, Try.ntmps82
    go_wp2_with (first | (go_at_call 83; refine (hn _ _).mono ?_; rintro e w' ⟨rfl, rfl⟩))
    go_ret
    exact ⟨rfl, rfl⟩
  · subst h
    have hc : cmpI x x = 0 := by unfold cmpI; simp
    rw [hc]
    go_enter Try.func82, Try.ntmps82
    go_wp2_with (first | (go_at_call 83; refine (hn _ _).mono ?_; rintro e w' ⟨rfl, rfl⟩))
    go_ret
    exact ⟨rfl, rfl⟩
  · have hc : cmpI x y = 1 := by unfold cmpI; rw [if_neg (by omega), if_pos h]
    have h' : ¬ x < y := by omega
    rw [hc]
    go_enter Try.func82, Try.ntmps82
    go_wp2_with (first | (go_at_call 83; refine (hn _ _).mono ?_; rintro e w' ⟨rfl, rfl⟩))
    go_ret
    exact ⟨rfl, rfl⟩

/-- integers in memory -/
def ints (l : List Int) : List Value := l.map fun i => .int .i64 i
theorem ints_length (l : List Int) : (ints l).length = l.length := by simp [ints]
theorem ints_at {l : List Int} {k : Nat} (hk : k < l.length) : (ints l)[k]? = some (.int .i64 l[k]) := by simp [ints, hk]
theorem orL_zero : ∀ {l : List Int}, (∀ x ∈ l, x = 0) → orL l = 0
  | [], _ => rfl
  | x :: l, h => by rw [orL, if_pos (h x (by simp)), orL_zero fun y hy => h y (by simp [hy])]
theorem orL_drop : ∀ {l : List Int} {k : Nat} (hk : k < l.length), (∀ j, (hj : j < k) → l[j] = 0) → l[k] ≠ 0 → orL l = l[k]
  | x :: l, 0, _, _, h => by
    simp only [List.getElem_cons_zero] at h ⊢
    rw [orL, if_neg h]
  | x :: l, k + 1, hk, h0, h => by
    have hx := h0 0 (by omega)
    simp only [List.getElem_cons_zero] at hx
    rw [orL, if_pos hx]
    simp only [List.getElem_cons_succ] at h ⊢
    exact orL_drop (by simpa using hk) (fun j hj => by have := h0 (j + 1) (by omega); simpa using this) h

set_option maxHeartbeats 1000000 in
theorem or_any {w : World} {A : Option Addr} {c : Nat} {l : List Int} (hR : Rd w w.heap.size 1 A l.length (ints l)) (hl : l.length ≤ 1000) :
    Calls Try.prog 81 #[.slice A l.length c] w fun e w' => e = .returned (.int .i64 (orL l)) ∧ w = w' := by
  go_enter Try.func81, Try.ntmps81
  go_wp2
  go_loop [8] (fun iv => ∃ k : Nat, iv = .int .i64 k ∧ k ≤ l.length ∧ Hid (∀ j, (hj : j < l.length) → j < k → l[j] = 0)) (fun iv => l.length - (intOf iv).toNat)
  case atStart => exact ⟨0, rfl, Nat.zero_le _, fun j _ hj => by omega⟩
  case round =>
    obtain ⟨k, rfl, hk, h0⟩ := hrel
    by_cases hlt : k < l.length
    · obtain ⟨a, u, rfl, hab, hu, hca⟩ := hR.at_ hlt
      rw [ints_at hlt] at hu
      injection hu with hu
      subst hu
      by_cases hz : l[k] = 0
      · have H0 := Lib.hid (show ∀ j, (hj : j < l.length) → j < k + 1 → l[j] = 0 from fun j hj hjk => by
          rcases Nat.lt_or_ge j k with h | h
          · exact h0.out j hj h
          · obtain rfl : j = k := by omega
            exact hz)
        have hz1 : (l[k] == 0) = true := by simp [hz]
        have hz2 : (l[k] != 0) = false := by simp [hz]
        generalize l[k] = x at *
        clear hz
        clear hR
        go_wp2
        go_round
        case rel => exact ⟨k + 1, by go_num, by omega, H0.out⟩
        case measure => simp [intOf]; omega
      · have HR := Lib.hid (orL_drop hlt (fun j hj => h0.out j (by omega) hj) hz)
        generalize l[k] = x at *
        have hz1 : (x == 0) = false := by simp [hz]
        have hz2 : (x != 0) = true := by simp [hz]
        clear hR
        go_wp2
        go_ret
        exact ⟨ret_int (by rw [HR.out]), rfl⟩
    · have HR := Lib.hid (orL_zero (l := l) fun x hx => by
        obtain ⟨j, hj, rfl⟩ := List.mem_iff_getElem.1 hx
        exact h0.out j hj (by omega))
      go_wp2
      go_ret
      exact ⟨ret_int (by rw [HR.out]), rfl⟩

/-- .. of a row that is a whole new block -/
theorem or_new (W : World) (l : List Int) (c : Nat) (hl : l.length ≤ 1000) : Calls Try.prog 81 #[.slice (some ⟨W.heap.size, 0, none⟩) l.length c] (W.alloc (.cells (ints l).toArray 3)).drew fun e w' => e = .returned (.int .i64 (orL l)) ∧ (W.alloc (.cells (ints l).toArray 3)).drew = w' :=
  or_any ⟨by rw [ints_length, Nat.mul_one], fun _ => ⟨_, rfl, by show W.heap.size < (W.alloc _).heap.size; rw [World.size_alloc]; omega, fun j u hu => World.news_of_block (w := (W.alloc _).drew) (fr := (0, 0)) (heap_alloc_new W (.cells (ints l).toArray 3)) j u (by simpa using hu)⟩⟩ hl
set_option maxHeartbeats 2000000 in
set_option maxRecDepth 100000 in
theorem less_any {w : World} {A : Option Addr} {c i j : Nat} {q : List Stp} (hR : Rd w w.heap.size 5 A q.length (stCs q)) (hi : i < q.length) (hj : j < q.length) :
    Calls Try.prog 79 #[.slice A q.length c, .int .i64 i, .int .i64 j] w fun e w' => e = .returned (.bool (ltS q[i] q[j])) ∧ Below w.heap.size w w' := by
  have hl := stCs_length q
  obtain ⟨a, rfl, hab, hc⟩ := hR.2 (by intro e; rw [e] at hl; simp at hl; omega)
  have hcell : ∀ {k : Nat} (hk : k < q.length) (w' : World), Below w.heap.size w w' → w'.cell? (a.add (k * 5)) = some (.int .i64 (q[k].num : Int)) ∧ w'.cell? ⟨(a.add (k * 5)).block, (a.add (k * 5)).off + 1, none⟩ = some (.int .i64 (q[k].st : Int)) ∧
      w'.cell? ⟨(a.add (k * 5)).block, (a.add (k * 5)).off + 2, none⟩ = some (.int .i64 (q[k].cost : Int)) ∧ w'.cell? ⟨(a.add (k * 5)).block, (a.add (k * 5)).off + 3, none⟩ = some (.int .i64 q[k].frm) ∧ w'.cell? ⟨(a.add (k * 5)).block, (a.add (k * 5)).off + 4, none⟩ = some (.int .i64 q[k].tree) := by
    intro k hk w' hw'
    have hb : (a.add (k * 5)).block < w.heap.size := by rw [block_add]; exact hab
    have hx : ∀ o u, 0 < o → o < 5 → (stC q[k])[o]? = some u → w'.cell? ⟨(a.add (k * 5)).block, (a.add (k * 5)).off + o, none⟩ = some u := fun o u h0 ho hu => by
      rw [hw'.cell (p := ⟨(a.add (k * 5)).block, (a.add (k * 5)).off + o, none⟩) hb, ← add_pos _ o h0, add_add]
      exact hc _ u ((stCs_at hk o ho).trans hu)
    exact ⟨(hw'.cell hb).trans (hc _ _ ((stCs_at hk 0 (by omega)).trans rfl)), hx 1 _ (by omega) (by omega) rfl, hx 2 _ (by omega) (by omega) rfl, hx 3 _ (by omega) (by omega) rfl, hx 4 _ (by omega) (by omega) rfl⟩
  obtain ⟨i0, i1, i2, i3, i4⟩ := hcell hi w (Below.refl _ _)
  obtain ⟨j0, j1, j2, j3, j4⟩ := hcell hj w (Below.refl _ _)
  have hiI : (i : Int) < (q.length : Int) := by omega
  have hjI : (j : Int) < (q.length : Int) := by omega
  have hi0 : (0 : Int) ≤ (i : Int) := by omega
  have hj0 : (0 : Int) ≤ (j : Int) := by omega
  clear hcell hc hR hl
  generalize q[i] = s at *
  generalize q[j] = t at *
  go_enter Try.func79, Try.ntmps79
  go_upto_region 1 with fail
  go_cut [7, 8] (fun s7 s8 wx => ∃ g1 g2 : Nat, s7 = .pointer (some ⟨g1, 0, none⟩) ∧ s8 = .pointer (some ⟨g2, 0, none⟩) ∧ wx.heap[g1]? = some (.cells (stC s).toArray 72 (0, 0)) ∧ wx.heap[g2]? = some (.cells (stC t).toArray 72 (0, 0)) ∧ Below w.heap.size w wx)
  case first =>
    go_region_held3 (fun w' => w'.cell? (a.add (i * 5)) = some (.int .i64 (s.num : Int)) ∧ w'.cell? ⟨(a.add (i * 5)).block, (a.add (i * 5)).off + 1, none⟩ = some (.int .i64 (s.st : Int)) ∧ w'.cell? ⟨(a.add (i * 5)).block, (a.add (i * 5)).off + 2, none⟩ = some (.int .i64 (s.cost : Int)) ∧ w'.cell? ⟨(a.add (i * 5)).block, (a.add (i * 5)).off + 3, none⟩ = some (.int .i64 s.frm) ∧ w'.cell? ⟨(a.add (i * 5)).block, (a.add (i * 5)).off + 4, none⟩ = some (.int .i64 s.tree) ∧
      w'.cell? (a.add (j * 5)) = some (.int .i64 (t.num : Int)) ∧ w'.cell? ⟨(a.add (j * 5)).block, (a.add (j * 5)).off + 1, none⟩ = some (.int .i64 (t.st : Int)) ∧ w'.cell? ⟨(a.add (j * 5)).block, (a.add (j * 5)).off + 2, none⟩ = some (.int .i64 (t.cost : Int)) ∧ w'.cell? ⟨(a.add (j * 5)).block, (a.add (j * 5)).off + 3, none⟩ = some (.int .i64 t.frm) ∧ w'.cell? ⟨(a.add (j * 5)).block, (a.add (j * 5)).off + 4, none⟩ = some (.int .i64 t.tree))
      (go_keep)
      (fail)
    all_goals
      go_wp2_with fail
      go_meet
      have h1 := heap_alloc_new (w.alloc (.cells (stC t).toArray 72)) (.cells (stC s).toArray 72)
      have h2 := heap_alloc_new (w.alloc (.cells (stC s).toArray 72)) (.cells (stC t).toArray 72)
      rw [World.size_alloc] at h1 h2
      first
        | exact ⟨_, _, rfl, rfl, h1, (Below.heap_alloc _ _ _ (by simp)).trans (heap_alloc_new w _), Below.drew (((Below.refl _ w).alloc (Nat.le_refl _) _).alloc (by simp) _)⟩
        | exact ⟨_, _, rfl, rfl, (Below.heap_alloc _ _ _ (by simp)).trans (heap_alloc_new w _), h2, Below.drew (((Below.refl _ w).alloc (Nat.le_refl _) _).alloc (by simp) _)⟩
  case rest =>
    obtain ⟨g1, g2, rfl, rfl, h1, h2, b1⟩ := hcut
    rename World => W1
    have hl1 := (Array.getElem?_eq_some_iff.1 h1).1
    have hl2 := (Array.getElem?_eq_some_iff.1 h2).1
    have a0 := Lib.cell_of_heap h1 0
    have a1 := Lib.cell_of_heap h1 1
    have a2 := Lib.cell_of_heap h1 2
    have a3 := Lib.cell_of_heap h1 3
    have a4 := Lib.cell_of_heap h1 4
    have b0 := Lib.cell_of_heap h2 0
    have b1' := Lib.cell_of_heap h2 1
    have b2 := Lib.cell_of_heap h2 2
    have b3 := Lib.cell_of_heap h2 3
    have b4 := Lib.cell_of_heap h2 4
    simp only [stC, List.getElem?_toArray, List.getElem?_cons_zero, List.getElem?_cons_succ] at a0 a1 a2 a3 a4 b0 b1' b2 b3 b4
    clear i0 i1 i2 i3 i4 j0 j1 j2 j3 j4 h1 h2
    go_wp2
    go_region_held3 (fun w' => w'.cell? ⟨g1, 0, none⟩ = some (.int .i64 (s.num : Int)) ∧ w'.cell? ⟨g1, 1, none⟩ = some (.int .i64 (s.st : Int)) ∧ w'.cell? ⟨g1, 2, none⟩ = some (.int .i64 (s.cost : Int)) ∧ w'.cell? ⟨g1, 3, none⟩ = some (.int .i64 s.frm) ∧ w'.cell? ⟨g1, 4, none⟩ = some (.int .i64 s.tree) ∧
        w'.cell? ⟨g2, 0, none⟩ = some (.int .i64 (t.num : Int)) ∧ w'.cell? ⟨g2, 1, none⟩ = some (.int .i64 (t.st : Int)) ∧ w'.cell? ⟨g2, 2, none⟩ = some (.int .i64 (t.cost : Int)) ∧ w'.cell? ⟨g2, 3, none⟩ = some (.int .i64 t.frm) ∧ w'.cell? ⟨g2, 4, none⟩ = some (.int .i64 t.tree))
      (go_keep)
      (first
        | (go_at_call 82; refine (compare_any _ _ _).mono ?_; rintro e w' ⟨rfl, rfl⟩)
        | (go_at_call 81; refine (or_new _ [cmpI s.cost t.cost, cmpI s.num t.num, cmpI s.st t.st, cmpI s.frm t.frm, cmpI s.tree t.tree] _ (of_decide_eq_true rfl)).mono ?_; rintro e w' ⟨rfl, rfl⟩))
    all_goals
      go_wp2
      go_ret
      refine ⟨ret_bool ?_, ?_⟩
      · rfl
      · exact Below.drew (b1.trans (((Below.refl _ W1).alloc (Nat.le_refl _) _).mono b1.size))
end Go.Proofs.Ytbipdnnalhdoaaa
