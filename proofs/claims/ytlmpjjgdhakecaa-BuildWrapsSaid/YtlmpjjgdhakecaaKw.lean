/- BuildWeighs: a tree weighs no more than its tokens. -/
import Derived.Test.YtlmpjjgdhakecaaKs
namespace Go.Proofs.Ytlmpjjgdhakecaa
open Go.RowKit Go.Maps Go.WideMaps
attribute [local go_sem ↓] Go.wp_at_zero Go.wp_at_succ

mutual
def wg1 : Nd → Nat
  | .mk _ _ ats _ kids => 1 + ats.length + wgL kids
def wgL : List Nd → Nat
  | [] => 0
  | n :: l => wg1 n + wgL l
end
theorem wgL_append (l m : List Nd) : wgL (l ++ m) = wgL l + wgL m := by
  induction l with
  | nil => simp [wgL]
  | cons n l ih => simp only [List.cons_append, wgL, ih]; omega
theorem wg1_eq (n : Nd) : wg1 n = 1 + n.attrs.length + wgL n.kids := by cases n; simp only [wg1, Nd.attrs, Nd.kids]
theorem wgL_take {l : List Nd} {k : Nat} (hk : k < l.length) : wgL (l.take (k + 1)) = wgL (l.take k) + (1 + l[k].attrs.length + wgL l[k].kids) := by
  rw [List.take_succ_eq_append_getElem hk, wgL_append, ← wg1_eq]
  simp only [wgL, Nat.add_zero]
/-- what a token weighs -/
def tkWt (t : Tk) : Nat := if t.kind = 1 then 1 + t.attrs.length else if t.kind = 3 ∨ t.kind = 4 then 1 else 0
def tksWt (l : List Tk) : Nat := (l.map tkWt).sum
theorem wgL_sum : Sum wgL (fun h => 1 + h.2.length) := ⟨rfl, wgL_append, fun h l => by simp only [wgL, elemN, wg1]; omega⟩
theorem putsZ_wg (l : List Tk) : ∀ z : Zp, wgL (putsZ z l).tree ≤ wgL z.tree + tksWt l := by
  induction l with
  | nil => intro z; simp [putsZ, tksWt]
  | cons t l ih =>
    intro z
    have h1 := ih (putZ z t)
    have h2 := putZ_sum wgL_sum (a := 1) (fun _ _ _ _ _ => rfl) (fun _ => by simp [wgL, wg1]) (fun _ => by simp [wgL, wg1]) z t
    have h3 : tksWt (t :: l) = tkWt t + tksWt l := by simp [tksWt]
    simp only [putsZ, List.foldl_cons] at h1 ⊢
    have h4 : (if t.kind = 1 then 1 + (t.name, t.attrs).2.length else if t.kind = 3 ∨ t.kind = 4 then 1 else 0) = tkWt t := rfl
    rw [h4] at h2
    omega
theorem weighs_law (l : List Tk) : wgL (treeL l) ≤ tksWt l := by
  have := putsZ_wg l ⟨[], []⟩
  have h0 : wgL (Zp.tree ⟨[], []⟩) = 0 := rfl
  unfold treeL
  omega
theorem tkWt_take {l : List Tk} {k : Nat} (hk : k < l.length) : tksWt (l.take (k + 1)) = tksWt (l.take k) + tkWt l[k] := by
  rw [List.take_succ_eq_append_getElem hk, tksWt, List.map_append, List.sum_append]
  simp [tksWt]

/-- strainerref03.Weight -/
def WtOk (l : List Nd) : Prop := ∀ (w : World) (A : Option Addr) (c : Nat), Nodes w w.heap.size A l.length l → l.length ≤ c → wgL l ≤ 1000000 →
    Calls Try.prog 16 #[.slice A l.length c] w fun e w' => e = .returned (.int .i64 (wgL l)) ∧ Below w.heap.size w w'
theorem wgL_len (l : List Nd) : l.length ≤ wgL l := by
  induction l with
  | nil => simp
  | cons n l ih => rw [List.length_cons, wgL, wg1_eq]; omega
theorem wgL_at {l : List Nd} {k : Nat} (hk : k < l.length) : 1 + l[k].attrs.length + wgL l[k].kids ≤ wgL l := by
  have h1 := wgL_take hk
  have h2 := wgL_append (l.take (k + 1)) (l.drop (k + 1))
  rw [List.take_append_drop] at h2
  omega

set_option maxHeartbeats 2000000 in
set_option maxRecDepth 100000 in
theorem Weight_step (l : List Nd) (ih : ∀ l', wtL l' < wtL l → WtOk l') : WtOk l := by
  intro w A c hN hc hwt
  have IH := Lib.hid ih
  have hll := wgL_len l
  clear ih
  go_enter Try.func16, Try.ntmps16
  go_wp2
  go_loopw [3, 4] (fun nv iv wr => ∃ k : Nat, nv = .int .i64 (wgL (l.take k)) ∧ iv = .int .i64 k ∧ k ≤ l.length ∧ Below w.heap.size w wr) (fun _ iv _ => l.length - (intOf iv).toNat)
  case atStart => exact ⟨0, rfl, rfl, Nat.zero_le _, Below.refl _ _⟩
  case round =>
    obtain ⟨k, rfl, rfl, hk, hw⟩ := hrel
    by_cases hlt : k < l.length
    · obtain ⟨a, rfl, hna⟩ := (hN.below hw).node hlt hlt
      have hat := wgL_at hlt
      have HT := Lib.hid (wgL_take hlt)
      have hlk : wgL (l.take (k + 1)) ≤ wgL l := by
        have h2 := wgL_append (l.take (k + 1)) (l.drop (k + 1))
        rw [List.take_append_drop] at h2
        omega
      rw [HT.out] at hlk
      have hwl := wtL_at hlt
      generalize l[k] = nd at *
      obtain ⟨A2, c2, ga, hac, _⟩ := hna.ats
      obtain ⟨A3, c3, gd, hdc, hkd⟩ := hna.kd
      have hsw := hw.size
      have g1 : ∀ w', Below wr.heap.size wr w' → w'.cell? ⟨(a.add (k * 5)).block, (a.add (k * 5)).off + 2, none⟩ = some (.slice A2 nd.attrs.length c2) := fun w' h => ((h.mono hsw).cell (p := ⟨(a.add (k * 5)).block, (a.add (k * 5)).off + 2, none⟩) hna.1).trans ga
      have g2 : ∀ w', Below wr.heap.size wr w' → w'.cell? ⟨(a.add (k * 5)).block, (a.add (k * 5)).off + 4, none⟩ = some (.slice A3 nd.kids.length c3) := fun w' h => ((h.mono hsw).cell (p := ⟨(a.add (k * 5)).block, (a.add (k * 5)).off + 4, none⟩) hna.1).trans gd
      have hcall : ∀ w', Below wr.heap.size wr w' → Calls Try.prog 16 #[.slice A3 nd.kids.length c3] w' fun e w2 => e = .returned (.int .i64 (wgL nd.kids)) ∧ Below w'.heap.size w' w2 := fun w' h => IH.out nd.kids hwl w' A3 c3 ((hkd.below (h.mono hsw)).more (by have := h.size; omega)) hdc (by omega)
      have HC := Lib.hid hcall
      have HL := Lib.hid hlk
      have HB := Lib.hid hat
      have z1 : IntKind.i64.wrap ((wgL (l.take k) : Int) + 1) = (wgL (l.take k) : Int) + 1 := IntWalk.i64_in _ (by omega)
      have z2 : IntKind.i64.wrap ((wgL (l.take k) : Int) + 1 + (nd.attrs.length : Int)) = (wgL (l.take k) : Int) + 1 + nd.attrs.length := IntWalk.i64_in _ (by omega)
      have z3 : IntKind.i64.wrap ((wgL (l.take k) : Int) + 1 + (nd.attrs.length : Int) + (wgL nd.kids : Int)) = (wgL (l.take k) : Int) + 1 + nd.attrs.length + wgL nd.kids := IntWalk.i64_in _ (by omega)
      have HS := Lib.hid (show (wgL (l.take k) : Int) + 1 + nd.attrs.length + wgL nd.kids = (wgL (l.take (k + 1)) : Int) by rw [HT.out]; omega)
      have hk' : k < l.length := hlt
      clear ga gd hcall hna hlk hat hac hdc hkd
      generalize wgL (l.take k) = s at *
      generalize wgL nd.kids = wk at *
      have hbel := Below.refl wr.heap.size wr
      go_upto_region 5 with fail
      go_region_held3 (fun w' => Below wr.heap.size wr w')
        (first
          | exact hbel
          | go_keep
          | (exact Below.drew (by assumption))
          | (exact (hbel.drew).trans (by assumption))
          | (exact bt hbel.drew br))
        (first
          | (go_at_call 16; refine (HC.out _ (by first | exact hbel | exact hbel.drew)).mono ?_; rintro e WA ⟨rfl, br⟩))
      all_goals
        rename Below wr.heap.size wr _ => b7
        have HB7 := Lib.hid b7
        go_wp2
        go_roundw
        case rel => exact ⟨k + 1, by rw [← HS.out], by go_num, by omega, hw.trans (HB7.out.mono hsw)⟩
        case measure => simp [intOf]; omega
    · obtain rfl : k = l.length := by omega
      rw [List.take_length]
      go_wp2
      go_ret
      exact ⟨rfl, hw⟩
theorem Weight_any (l : List Nd) : WtOk l := by
  suffices h : ∀ k, ∀ l, wtL l ≤ k → WtOk l from h _ l (Nat.le_refl _)
  intro k
  induction k with
  | zero => intro l hl; exact Weight_step l (fun l' h => by omega)
  | succ k ih => intro l hl; exact Weight_step l (fun l' h => ih l' (by omega))

theorem tksWt_le (l : List Tk) (h : ∀ t ∈ l, TkOk t) : tksWt l ≤ 1001 * l.length := by
  induction l with
  | nil => simp [tksWt]
  | cons t l ih =>
    have h1 := ih (fun t ht => h t (by simp [ht]))
    have h2 := (h t (by simp)).2.2.2
    have h3 : tkWt t ≤ 1001 := by unfold tkWt; split <;> (try split) <;> omega
    have h4 : tksWt (t :: l) = tkWt t + tksWt l := by simp [tksWt]
    rw [h4, List.length_cons]
    omega
theorem cut7_ok {l : List Tk} (h : ∀ t ∈ l, KindOk t.kind) : ∀ t ∈ cut7 l, TkOk t := by
  intro t ht
  obtain ⟨t', h1, rfl⟩ := List.mem_map.1 ht
  exact cutT_ok (h t' (List.mem_of_mem_take h1))

set_option maxHeartbeats 2000000 in
set_option maxRecDepth 100000 in
theorem BuildWeighs_calls {W : World} {A : Option Addr} {c : Nat} {l : List Tk} (hT : Toks W W.heap.size A l.length l) (hc : l.length ≤ c) (hk : ∀ t ∈ l, KindOk t.kind) :
    Calls Try.prog 6 #[.slice A l.length c] W fun e W' => e = .returned (.bool true) ∧ Below W.heap.size W W' := by
  have hok := cut7_ok hk
  have hlen := cut7_length l
  have hwl := tksWt_le _ hok
  have hlaw := weighs_law (cut7 l)
  go_enter Try.func6, Try.ntmps6
  go_wp2_with fail
  refine (Cut7_any hT hc).mono ?_
  rintro e W1 ⟨A1, c1, rfl, h1, hP, b1⟩
  have hT1 : Toks W1 W1.heap.size A1 (cut7 l).length (cut7 l) := hP.lt fun q hq => hq.2
  generalize cut7 l = l7 at *
  clear hT hc hk hP
  go_wp2_with fail
  go_loopw [3, 4] (fun nv iv wr => ∃ k : Nat, nv = .int .i64 (tksWt (l7.take k)) ∧ iv = .int .i64 k ∧ k ≤ l7.length ∧ Below W1.heap.size W1 wr) (fun _ iv _ => l7.length - (intOf iv).toNat)
  case atStart => exact ⟨0, rfl, rfl, Nat.zero_le _, Below.refl _ _⟩
  case round =>
    obtain ⟨k, rfl, rfl, hk, hw⟩ := hrel
    by_cases hlt : k < l7.length
    · obtain ⟨a, rfl, hta⟩ := hT1.at_ hlt
      obtain ⟨ht0, ht1, ht2, ht3, A2, c2, ht4, ht5, ht6⟩ := hta.below hw
      have HNX := Lib.hid (tkWt_take hlt)
      have hbd := tksWt_le (l7.take k) (fun t ht => hok t (List.mem_of_mem_take ht))
      rw [List.length_take] at hbd
      have ho := (hok l7[k] (List.getElem_mem _)).2.2.2
      generalize l7[k] = t at *
      have hsb : tksWt (l7.take k) ≤ 41000 := by omega
      generalize tksWt (l7.take k) = s at *
      clear hbd ht2 ht3 ht5 ht6 hta hwl hlaw
      by_cases k1 : t.kind = 1
      · have HW := Lib.hid (show tkWt t = 1 + t.attrs.length by simp only [tkWt, k1, if_true])
        have q1 : (t.kind == 1) = true := by simp [k1]
        have z1 : IntKind.i64.wrap ((s : Int) + 1) = (s : Int) + 1 := IntWalk.i64_in _ (by omega)
        have z2 : IntKind.i64.wrap ((s : Int) + 1 + (t.attrs.length : Int)) = (s : Int) + 1 + t.attrs.length := IntWalk.i64_in _ (by omega)
        clear k1
        go_wp2
        go_roundw
        case rel => exact ⟨k + 1, by rw [HNX.out, HW.out]; go_num, by go_num, by omega, hw⟩
        case measure => simp [intOf]; omega
      · have q1 : (t.kind == 1) = false := by simp [k1]
        have z1 : IntKind.i64.wrap ((s : Int) + 1) = (s : Int) + 1 := IntWalk.i64_in _ (by omega)
        by_cases k3 : t.kind = 3
        · have q3 : (t.kind == 3) = true := by simp [k3]
          have HW := Lib.hid (show tkWt t = 1 by simp [tkWt, k3])
          clear k1 k3
          go_wp2
          go_roundw
          case rel => exact ⟨k + 1, by rw [HNX.out, HW.out]; go_num, by go_num, by omega, hw⟩
          case measure => simp [intOf]; omega
        · have q3 : (t.kind == 3) = false := by simp [k3]
          by_cases k4 : t.kind = 4
          · have q4 : (t.kind == 4) = true := by simp [k4]
            have HW := Lib.hid (show tkWt t = 1 by simp [tkWt, k4])
            clear k1 k3 k4
            go_wp2
            go_roundw
            case rel => exact ⟨k + 1, by rw [HNX.out, HW.out]; go_num, by go_num, by omega, hw⟩
            case measure => simp [intOf]; omega
          · have q4 : (t.kind == 4) = false := by simp [k4]
            have HW := Lib.hid (show tkWt t = 0 by simp only [tkWt, k1, k3, k4, or_self, if_false])
            clear k1 k3 k4
            go_wp2
            go_roundw
            case rel => exact ⟨k + 1, by rw [HNX.out, HW.out, Nat.add_zero], by go_num, by omega, hw⟩
            case measure => simp [intOf]; omega
    · obtain rfl : k = l7.length := by omega
      rw [List.take_length]
      have hT2 : Toks wr wr.heap.size A1 l7.length l7 := hT1.on hw
      have hwg : wgL (treeL l7) ≤ 1000000 := by omega
      have HLAW := Lib.hid hlaw
      clear hT1 hlaw
      go_wp2_with fail
      refine (Tree_any hT2 h1 (by omega) hok).mono ?_
      rintro e W2 ⟨A2, c2, D, rfl, h2, hn2, b2, hD2⟩
      have hN2 : Nodes W2 W2.heap.size A2 (treeL l7).length (treeL l7) := hn2.lt fun q hq => (hD2 q hq).2.1
      go_wp2_with fail
      refine (Weight_any (treeL l7) W2 A2 c2 hN2 h2 hwg).mono ?_
      rintro e W3 ⟨rfl, b3⟩
      have hle : (wgL (treeL l7) : Int) ≤ (tksWt l7 : Int) := by have := HLAW.out; omega
      have B3 := ((b1.trans (hw.mono b1.size)).trans (b2.mono (by have := b1.size; have := hw.size; omega))).trans (b3.mono (by have := b1.size; have := hw.size; have := b2.size; omega))
      clear hN2 hn2 hT2
      go_wp2_with fail
      refine (lives_any _).mono ?_
      rintro e W4 ⟨rfl, b4⟩
      go_wp2
      go_ret
      exact ⟨rfl, B3.trans (b4.mono B3.size)⟩
end Go.Proofs.Ytlmpjjgdhakecaa
