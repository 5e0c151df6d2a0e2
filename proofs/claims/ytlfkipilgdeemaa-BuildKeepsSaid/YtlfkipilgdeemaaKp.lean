/- The package build: deeds, Put. -/
import Derived.Test.YtlfkipilgdeemaaKa
namespace Go.Proofs.Ytlfkipilgdeemaa
open Go.RowKit Go.Maps Go.WideMaps
attribute [local go_sem ↓] Go.wp_at_zero Go.wp_at_succ

/-- what is done of tokens of a kind -/
def deedF (v : Value) : Option Value := match v with
  | .int .i64 k => if k = 1 then some (.func (.func 22) #[] #[]) else if k = 2 then some (.func (.func 23) #[] #[])
      else if k = 3 then some (.func (.func 24) #[] #[]) else if k = 4 then some (.func (.func 25) #[] #[]) else none
  | _ => none
def deedP (n : Nat) (v : Value) : Option Value := match v with
  | .int .i64 k => if k ≤ n then deedF (.int .i64 k) else none
  | _ => none
theorem keyI : Keyed Try.prog 3 := int_keyed Try.underlying3
theorem deedP_new (n : Nat) (k : Int) (hk : k = n) : deedP n (.int .i64 k) = deedF (.int .i64 k) := by simp [deedP, hk]
theorem deedP_old (n : Nat) (y : Value) (hy : y ≠ .int .i64 ((n + 1 : Nat) : Int)) : deedP (n + 1) y = deedP n y := by
  unfold deedP
  split
  · rename_i k
    have : k ≠ ((n + 1 : Nat) : Int) := fun e => hy (by rw [e])
    by_cases h : k ≤ n
    · rw [if_pos h, if_pos (by omega)]
    · rw [if_neg h, if_neg (by omega)]
  · rfl
theorem deedP_four : deedP 4 = deedF := by
  funext v
  unfold deedP
  split
  · rename_i k
    split
    · rfl
    · rename_i h
      simp only [deedF]
      rw [if_neg (by omega), if_neg (by omega), if_neg (by omega), if_neg (by omega)]
  · rename_i h
    unfold deedF
    split
    · rename_i k; exact absurd rfl (h k)
    · rfl
theorem deedP_zero : ∀ y, deedP 0 y = none := by
  intro y
  unfold deedP
  split
  · rename_i k
    split
    · rename_i h
      simp only [deedF]
      rw [if_neg (by omega), if_neg (by omega), if_neg (by omega), if_neg (by omega)]
    · rfl
  · rfl

set_option maxRecDepth 100000 in
/-- deeds -/
theorem deeds_any (w : World) : Calls Try.prog 16 #[] w fun e w' => ∃ b n, e = .returned (.map (some b)) ∧ MapIs Try.prog 3 w' b n deedF ∧ Below w.heap.size w w' := by
  have hmm := @run_makeMap Try.prog
  have m0 : MapIs Try.prog 3 (w.alloc (.map #[] 0)) w.heap.size 0 (deedP 0) := (funext deedP_zero : deedP 0 = fun _ => none) ▸ MapIs.made _ _ w
  have b0 : Below w.heap.size w (w.alloc (.map #[] 0)) := (Below.refl _ w).alloc (Nat.le_refl _) _
  have hkey : ∀ k : Int, (Lit.int .i64 k).wf = true → keyOf Try.prog 3 (.int .i64 k) = some (.int .i64 k) := fun k hk => keyOf_int_mk Try.underlying3 hk
  go_enter Try.func16, Try.ntmps16
  go_wp2_with (first
    | (refine wpList_mapset rfl _ _ _ _ (.inr rfl) keyI Try.underlying48 rfl m0 _ _ _ rfl rfl (hkey _ rfl) (deedP 1) (deedP_new 1 1 rfl) (fun y hy => deedP_old 0 y hy) ?_; intro w1 m1 g1; have b1 := below_map b0 g1 (Nat.le_refl _); clear g1 m0)
    | (refine wpList_mapset rfl _ _ _ _ (.inr rfl) keyI Try.underlying48 rfl m1 _ _ _ rfl rfl (hkey _ rfl) (deedP 2) (deedP_new 2 2 rfl) (fun y hy => deedP_old 1 y hy) ?_; intro w2 m2 g2; have b2 := below_map b1 g2 (Nat.le_refl _); clear g2 m1)
    | (refine wpList_mapset rfl _ _ _ _ (.inr rfl) keyI Try.underlying48 rfl m2 _ _ _ rfl rfl (hkey _ rfl) (deedP 3) (deedP_new 3 3 rfl) (fun y hy => deedP_old 2 y hy) ?_; intro w3 m3 g3; have b3 := below_map b2 g3 (Nat.le_refl _); clear g3 m2)
    | (refine wpList_mapset rfl _ _ _ _ (.inr rfl) keyI Try.underlying48 rfl m3 _ _ _ rfl rfl (hkey _ rfl) (deedP 4) (deedP_new 4 4 rfl) (fun y hy => deedP_old 3 y hy) ?_; intro w4 m4 g4; have b4 := below_map b3 g4 (Nat.le_refl _); clear g4 m3))
  go_ret
  exact ⟨_, _, rfl, deedP_four ▸ m4, b4⟩

theorem BI.more {w : World} {base bb N N' : Nat} {z : Zp} (h : BI w base bb N z) (hN : N ≤ N') : BI w base bb N' z := by
  obtain ⟨own, mm, g, outs, opens, h1, h2⟩ := h
  exact ⟨own, mm, g, outs, opens, h1.more hN, h2⟩
/-- a kind that a machine's integer can be -/
abbrev KindOk (k : Int) : Prop := -9223372036854775808 ≤ k ∧ k ≤ 9223372036854775807

set_option maxHeartbeats 1000000 in
set_option maxRecDepth 100000 in
/-- Put -/
theorem Put_any {w : World} {base bb N : Nat} {z : Zp} (h : BI w base bb N z) (hN : N ≤ 900) (t : Tk) (A : Option Addr) (c : Nat) (hk : KindOk t.kind) (ht : t.name.length ≤ 1000) (hx : t.text.length ≤ 1000) (hal : t.attrs.length ≤ 1000) (hat : Atrs w base A t.attrs.length t.attrs) :
    Calls Try.prog 8 #[.pointer (some ⟨bb, 0, none⟩), tkV t A c] w fun e w' => e = .returned (.tuple #[]) ∧ Below base w w' ∧ BI w' base bb (N + 3) (putZ z t) := by
  have hbs : base ≤ w.heap.size := by
    obtain ⟨own, mm, g, outs, opens, h1, h2⟩ := h
    have := (h1.lt bb _ h1.me)
    omega
  have hkey : keyOf Try.prog 3 (.int .i64 t.kind) = some (.int .i64 t.kind) := keyOf_int_mk Try.underlying3 (by
    show (decide (IntKind.i64.min ≤ t.kind) && decide (t.kind ≤ IntKind.i64.max)) = true
    rw [Bool.and_eq_true, decide_eq_true_eq, decide_eq_true_eq]
    exact hk)
  have hz : ∀ w, (zeroValue 46).run Try.prog w = .ok .nilFunc w := fun w => by kernel_rfl
  have hnew := heap_alloc_new w (.cells #[.int .i64 t.kind, .string ⟨t.name.toArray⟩, .slice A t.attrs.length c, .string ⟨t.text.toArray⟩] 29)
  have b0 : Below w.heap.size w (w.alloc (.cells #[.int .i64 t.kind, .string ⟨t.name.toArray⟩, .slice A t.attrs.length c, .string ⟨t.text.toArray⟩] 29)) := (Below.refl _ w).alloc (Nat.le_refl _) _
  have s0 : (w.alloc (.cells #[.int .i64 t.kind, .string ⟨t.name.toArray⟩, .slice A t.attrs.length c, .string ⟨t.text.toArray⟩] 29)).heap.size = w.heap.size + 1 := World.size_alloc _ _
  have hF : ∀ W1, Below (w.alloc (.cells #[.int .i64 t.kind, .string ⟨t.name.toArray⟩, .slice A t.attrs.length c, .string ⟨t.text.toArray⟩] 29)).drew.heap.size (w.alloc (.cells #[.int .i64 t.kind, .string ⟨t.name.toArray⟩, .slice A t.attrs.length c, .string ⟨t.text.toArray⟩] 29)).drew W1 →
      W1.cell? ⟨w.heap.size, 0, none⟩ = some (.int .i64 t.kind) ∧ Below w.heap.size w W1 ∧ (∀ j, W1.cell? ⟨w.heap.size, j, none⟩ = (#[.int .i64 t.kind, .string ⟨t.name.toArray⟩, .slice A t.attrs.length c, .string ⟨t.text.toArray⟩] : Array Value)[j]?) := by
    intro W1 b1
    have hs1 : w.heap.size < (w.alloc (.cells #[.int .i64 t.kind, .string ⟨t.name.toArray⟩, .slice A t.attrs.length c, .string ⟨t.text.toArray⟩] 29)).drew.heap.size := by
      show w.heap.size < (w.alloc (.cells #[.int .i64 t.kind, .string ⟨t.name.toArray⟩, .slice A t.attrs.length c, .string ⟨t.text.toArray⟩] 29)).heap.size
      omega
    have hh := (b1.block w.heap.size hs1).trans hnew
    exact ⟨by rw [Lib.cell_of_heap hh]; rfl, (b0.drew).trans (b1.mono (by omega)), fun j => Lib.cell_of_heap hh j⟩
  have H := Lib.hid h
  have HK := Lib.hid hkey
  have HF := Lib.hid hF
  clear h hkey hnew s0 b0 hF
  by_cases h1 : t.kind = 1
  · have hd : deedF (.int .i64 t.kind) = some (.func (.func 22) #[] #[]) := by rw [h1]; rfl
    have HP := Lib.hid (show putZ z t = beginZ z t.name t.attrs by simp [putZ, h1])
    have HD := Lib.hid hd
    clear h1 hd
    go_enter Try.func8, Try.ntmps8
    unfold tkV
    go_wp2
    go_region_with (go_at_call 16; refine (deeds_any _).mono ?_; rintro e W1 ⟨b, n, rfl, m1, b1⟩; have hl := m1.look keyI Try.underlying48 (hz _) HK.out true; rw [HD.out] at hl; simp only [if_true] at hl; have hc0 := (HF.out W1 b1).1)
    all_goals
      obtain ⟨_, hB1, hcs⟩ := HF.out _ b1
      have hcs1 := hcs 1
      have hcs2 := hcs 2
      have hcs3 := hcs 3
      simp only [List.getElem?_toArray, List.getElem?_cons_zero, List.getElem?_cons_succ] at hcs1 hcs2 hcs3
      have HBI := Lib.hid (H.out.below hB1 (Nat.le_refl _))
      clear hl m1 hcs b1
      go_wp2_with fail
      refine (begin_any HBI.out hN t A c ht hal (Rd.below (B := base) hat (hB1.mono hbs))).mono ?_
      rintro e W2 ⟨rfl, b2, i2⟩
      go_wp2
      go_end0
      rw [HP.out]
      exact ⟨rfl, (hB1.mono hbs).trans b2, i2⟩
  by_cases h2 : t.kind = 2
  · have hd : deedF (.int .i64 t.kind) = some (.func (.func 23) #[] #[]) := by rw [h2]; rfl
    have HP := Lib.hid (show putZ z t = endZ z t.name by simp [putZ, h2])
    have HD := Lib.hid hd
    clear h1 h2 hd
    go_enter Try.func8, Try.ntmps8
    unfold tkV
    go_wp2
    go_region_with (go_at_call 16; refine (deeds_any _).mono ?_; rintro e W1 ⟨b, n, rfl, m1, b1⟩; have hl := m1.look keyI Try.underlying48 (hz _) HK.out true; rw [HD.out] at hl; simp only [if_true] at hl; have hc0 := (HF.out W1 b1).1)
    all_goals
      obtain ⟨_, hB1, hcs⟩ := HF.out _ b1
      have hcs1 := hcs 1
      have hcs2 := hcs 2
      have hcs3 := hcs 3
      simp only [List.getElem?_toArray, List.getElem?_cons_zero, List.getElem?_cons_succ] at hcs1 hcs2 hcs3
      have HBI := Lib.hid (H.out.below hB1 (Nat.le_refl _))
      clear hl m1 hcs b1
      go_wp2_with fail
      refine (end_any HBI.out hN t A c ht).mono ?_
      rintro e W2 ⟨rfl, b2, i2⟩
      go_wp2
      go_end0
      rw [HP.out]
      exact ⟨rfl, (hB1.mono hbs).trans b2, i2⟩
  by_cases h3 : t.kind = 3
  · have hd : deedF (.int .i64 t.kind) = some (.func (.func 24) #[] #[]) := by rw [h3]; rfl
    have HP := Lib.hid (show putZ z t = charsZ z t.text by simp [putZ, h3])
    have HD := Lib.hid hd
    clear h1 h2 h3 hd
    go_enter Try.func8, Try.ntmps8
    unfold tkV
    go_wp2
    go_region_with (go_at_call 16; refine (deeds_any _).mono ?_; rintro e W1 ⟨b, n, rfl, m1, b1⟩; have hl := m1.look keyI Try.underlying48 (hz _) HK.out true; rw [HD.out] at hl; simp only [if_true] at hl; have hc0 := (HF.out W1 b1).1)
    all_goals
      obtain ⟨_, hB1, hcs⟩ := HF.out _ b1
      have hcs1 := hcs 1
      have hcs2 := hcs 2
      have hcs3 := hcs 3
      simp only [List.getElem?_toArray, List.getElem?_cons_zero, List.getElem?_cons_succ] at hcs1 hcs2 hcs3
      have HBI := Lib.hid (H.out.below hB1 (Nat.le_refl _))
      clear hl m1 hcs b1
      go_wp2_with fail
      refine (chars_any HBI.out hN t A c hx).mono ?_
      rintro e W2 ⟨rfl, b2, i2⟩
      go_wp2
      go_end0
      rw [HP.out]
      exact ⟨rfl, (hB1.mono hbs).trans b2, i2⟩
  by_cases h4 : t.kind = 4
  · have hd : deedF (.int .i64 t.kind) = some (.func (.func 25) #[] #[]) := by rw [h4]; rfl
    have HP := Lib.hid (show putZ z t = remarkZ z t.text by simp [putZ, h4])
    have HD := Lib.hid hd
    clear h1 h2 h3 h4 hd
    go_enter Try.func8, Try.ntmps8
    unfold tkV
    go_wp2
    go_region_with (go_at_call 16; refine (deeds_any _).mono ?_; rintro e W1 ⟨b, n, rfl, m1, b1⟩; have hl := m1.look keyI Try.underlying48 (hz _) HK.out true; rw [HD.out] at hl; simp only [if_true] at hl; have hc0 := (HF.out W1 b1).1)
    all_goals
      obtain ⟨_, hB1, hcs⟩ := HF.out _ b1
      have hcs1 := hcs 1
      have hcs2 := hcs 2
      have hcs3 := hcs 3
      simp only [List.getElem?_toArray, List.getElem?_cons_zero, List.getElem?_cons_succ] at hcs1 hcs2 hcs3
      have HBI := Lib.hid (H.out.below hB1 (Nat.le_refl _))
      clear hl m1 hcs b1
      go_wp2_with fail
      refine (remark_any HBI.out hN t A c hx).mono ?_
      rintro e W2 ⟨rfl, b2, i2⟩
      go_wp2
      go_end0
      rw [HP.out]
      exact ⟨rfl, (hB1.mono hbs).trans b2, i2⟩
  have hd : deedF (.int .i64 t.kind) = none := by simp only [deedF, h1, h2, h3, h4, if_false]
  have HP := Lib.hid (show putZ z t = z by simp only [putZ, h1, h2, h3, h4, if_false])
  have HD := Lib.hid hd
  clear h1 h2 h3 h4 hd
  go_enter Try.func8, Try.ntmps8
  unfold tkV
  go_wp2
  go_region_with (go_at_call 16; refine (deeds_any _).mono ?_; rintro e W1 ⟨b, n, rfl, m1, b1⟩; have hl := m1.look keyI Try.underlying48 (hz _) HK.out true; rw [HD.out] at hl; simp only [if_true] at hl; have hc0 := (HF.out W1 b1).1)
  all_goals
    go_wp2
    go_end0
    rw [HP.out]
    exact ⟨rfl, (HF.out _ b1).2.1.mono hbs, (H.out.below (HF.out _ b1).2.1 (Nat.le_refl _)).more (by omega)⟩
end Go.Proofs.Ytlfkipilgdeemaa
