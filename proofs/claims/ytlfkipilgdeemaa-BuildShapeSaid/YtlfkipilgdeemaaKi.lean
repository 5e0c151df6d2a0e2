/- BuildShape: shaped, and the law. -/
import Derived.Test.YtlfkipilgdeemaaKs
import Derived.Test.YtlfkipilgdeemaaKh
namespace Go.Proofs.Ytlfkipilgdeemaa
open Go.RowKit Go.Maps Go.WideMaps
attribute [local go_sem ↓] Go.wp_at_zero Go.wp_at_succ

theorem cut7_oks {l : List Tk} (h : ∀ t ∈ l, KindOk t.kind) : ∀ t ∈ cut7 l, TkOk t := by
  intro t ht
  obtain ⟨t', h1, rfl⟩ := List.mem_map.1 ht
  exact cutT_ok (h t' (List.mem_of_mem_take h1))
theorem wtL_len (l : List Nd) : l.length ≤ wtL l := by
  induction l with
  | nil => simp
  | cons n l ih => have := wt1_eq n; rw [List.length_cons, wtL]; omega
/-- strainerlaw07.shaped -/
def ShOk (l : List Nd) : Prop := ∀ (p : List UInt8) (w : World) (A : Option Addr) (c : Nat), Nodes w w.heap.size A l.length l → l.length ≤ c → wtL l ≤ 1000000 → (voidL p = true → l = []) → shL l p false →
    Calls Try.prog 13 #[.string ⟨p.toArray⟩, .slice A l.length c] w fun e w' => e = .returned (.bool true) ∧ Below w.heap.size w w'

set_option maxHeartbeats 4000000 in
set_option maxRecDepth 100000 in
theorem shaped_step (l : List Nd) (ih : ∀ l', wtL l' < wtL l → ShOk l') : ShOk l := by
  intro p w A c hN hc hwt hvo hsh
  have IH := Lib.hid ih
  have hll := wtL_len l
  clear ih
  cases hv : voidL p with
  | true =>
    obtain rfl := hvo hv
    have HV := Lib.hid hv
    clear hv hvo
    go_enter Try.func13, Try.ntmps13
    go_wp2_with fail
    refine (rVoid_any p _).mono ?_
    rintro e w' ⟨rfl, rfl⟩
    rw [HV.out]
    simp only [List.length_nil]
    go_wp2
    go_loopw [6] (fun iv wr => iv = .int .i64 0 ∧ wr = w) (fun _ _ => 0)
    case atStart => exact ⟨rfl, rfl⟩
    case round =>
      obtain ⟨rfl, rfl⟩ := hrel
      go_wp2
      go_ret
      exact ⟨rfl, Below.refl _ _⟩
  | false =>
    have HV := Lib.hid hv
    clear hv hvo
    go_enter Try.func13, Try.ntmps13
    go_wp2_with fail
    refine (rVoid_any p _).mono ?_
    rintro e w' ⟨rfl, rfl⟩
    rw [HV.out]
    go_wp2
    go_loopw [6] (fun iv wr => ∃ k : Nat, iv = .int .i64 k ∧ k ≤ l.length ∧ Below w.heap.size w wr) (fun iv _ => l.length - (intOf iv).toNat)
    case atStart => exact ⟨0, rfl, Nat.zero_le _, Below.refl _ _⟩
    case round =>
      obtain ⟨k, rfl, hk, hw⟩ := hrel
      by_cases hlt : k < l.length
      · obtain ⟨a, rfl, hna⟩ := hN.node hlt hlt
        have hs1 := shL_at hsh k hlt
        have hwl := wtL_at hlt
        have hsw := hw.size
        obtain ⟨j, hj, hprev⟩ : ∃ j, (0 < k → k = j + 1) ∧ (0 < k → ∃ kd, w.cell? (a.add (j * 5)) = some (.int .i64 kd) ∧ (if k = 0 then false else ((l[k - 1]'(by omega)).kind == 2)) = (kd == 2)) := by
          refine ⟨k - 1, fun h => by omega, fun h => ?_⟩
          obtain ⟨a', e, hna'⟩ := hN.node (k := k - 1) (by omega) (by omega)
          injection e with e
          subst e
          exact ⟨_, hna'.k, by rw [if_neg (by omega)]⟩
        generalize hpb : (if k = 0 then false else ((l[k - 1]'(by omega)).kind == 2)) = pb at *
        generalize l[k] = nd at *
        obtain ⟨A3, c3, gd, hdc, hkd⟩ := hna.kd
        have gk := hna.k
        have gn := hna.nm
        have gt := hna.tx
        have hcall : ∀ w', Below w.heap.size w w' → Calls Try.prog 13 #[.string ⟨nd.name.toArray⟩, .slice A3 nd.kids.length c3] w' fun e w2 => e = .returned (.bool true) ∧ Below w'.heap.size w' w2 := by
          intro w' h
          cases nd with
          | mk kd nm ats tx kids =>
            simp only [sh1] at hs1
            exact IH.out kids hwl nm w' A3 c3 ((hkd.below h).more h.size) hdc (by have : wtL kids < wtL l := hwl; omega) hs1.2.2.1 hs1.2.2.2
        have HC := Lib.hid hcall
        have g1 : ∀ w', Below w.heap.size w w' → w'.cell? (a.add (k * 5)) = some (.int .i64 nd.kind) := fun w' h => (h.cell hna.1).trans gk
        have g2 : ∀ w', Below w.heap.size w w' → w'.cell? ⟨(a.add (k * 5)).block, (a.add (k * 5)).off + 1, none⟩ = some (.string ⟨nd.name.toArray⟩) := fun w' h => (h.cell (p := ⟨(a.add (k * 5)).block, (a.add (k * 5)).off + 1, none⟩) hna.1).trans gn
        have g3 : ∀ w', Below w.heap.size w w' → w'.cell? ⟨(a.add (k * 5)).block, (a.add (k * 5)).off + 3, none⟩ = some (.string ⟨nd.text.toArray⟩) := fun w' h => (h.cell (p := ⟨(a.add (k * 5)).block, (a.add (k * 5)).off + 3, none⟩) hna.1).trans gt
        have g4 : ∀ w', Below w.heap.size w w' → w'.cell? ⟨(a.add (k * 5)).block, (a.add (k * 5)).off + 4, none⟩ = some (.slice A3 nd.kids.length c3) := fun w' h => (h.cell (p := ⟨(a.add (k * 5)).block, (a.add (k * 5)).off + 4, none⟩) hna.1).trans gd
        have h1 : nd.kind = 1 → closesL p nd.name = false := by
          cases nd; simp only [sh1] at hs1; exact hs1.1
        have h2 : nd.kind = 2 → nd.text ≠ [] ∧ pb = false := by
          cases nd; simp only [sh1] at hs1; exact hs1.2.1
        have hab := hna.1
        clear gk gn gt gd hcall hs1 hna hdc hkd
        have hIl : (k : Int) < (l.length : Int) := by omega
        by_cases k1 : nd.kind = 1
        · have q1 : (nd.kind == 1) = true := by simp [k1]
          have q2 : (nd.kind == 2) = false := by simp [k1]
          have HCL := Lib.hid (h1 k1)
          have x0 := g1 wr hw
          have x1 := g2 wr hw
          clear k1 h1 h2
          go_wp2_with fail
          refine (rCloses_any p nd.name _).mono ?_
          rintro e W2 ⟨rfl, bq⟩
          rw [HCL.out]
          have hW2 : Below w.heap.size w W2 := hw.trans (bq.mono hsw)
          have HW := Lib.hid hW2
          have y0 := g1 W2 hW2
          clear bq x0 x1
          go_upto_region 10 with fail
          go_region_held3 (fun w' => Below w.heap.size w w')
            (first
              | assumption
              | go_keep
              | (exact Below.drew (by assumption))
              | (first | exact bt HW.out.drew br | exact bt HW.out br))
            (first
              | (go_at_call 13; refine (HC.out _ (by first | exact HW.out.drew | exact HW.out)).mono ?_; rintro e WA ⟨rfl, br⟩))
          all_goals
            rename Below w.heap.size w _ => b7
            have HB7 := Lib.hid b7
            go_wp2
            go_roundw
            case rel => exact ⟨k + 1, by go_num, by omega, HB7.out⟩
            case measure => simp [intOf]; omega
        · have q1 : (nd.kind == 1) = false := by simp [k1]
          have x0 := g1 wr hw
          have x3 := g3 wr hw
          have HW := Lib.hid hw
          by_cases k2 : nd.kind = 2
          · have q2 : (nd.kind == 2) = true := by simp [k2]
            have q3 : (nd.text == []) = false := beq_nil_false (h2 k2).1
            have q4 : nd.text.isEmpty = false := by have := (h2 k2).1; cases hx : nd.text <;> simp_all
            have hpf := (h2 k2).2
            by_cases k0 : k = 0
            · have z4 : ¬ (0 : Int) < (k : Int) := by omega
              have z5 : ¬ 0 < k := by omega
              clear k1 h1 h2 k2 hprev hpf k0 hj hpb
              go_upto_region 10 with fail
              go_region_held3 (fun w' => Below w.heap.size w w')
                (first
                  | assumption
                  | go_keep
                  | (exact Below.drew (by assumption))
                  | (first | exact bt HW.out.drew br | exact bt HW.out br))
                (first
                  | (go_at_call 13; refine (HC.out _ (by first | exact HW.out.drew | exact HW.out)).mono ?_; rintro e WA ⟨rfl, br⟩))
              all_goals
                rename Below w.heap.size w _ => b7
                have HB7 := Lib.hid b7
                go_wp2
                go_roundw
                case rel => exact ⟨k + 1, by go_num, by omega, HB7.out⟩
                case measure => simp [intOf]; omega
            · have hkp : 0 < k := by omega
              obtain ⟨kd, hkd0, hkde⟩ := hprev hkp
              have q5 : (kd == 2) = false := by rw [← hkde]; exact hpf
              have x5 := (hw.cell (p := a.add (j * 5)) (by rw [block_add]; rw [block_add] at hab; exact hab)).trans hkd0
              have hj1 := hj hkp
              have z1 : IntKind.i64.wrap ((k : Int) - 1) = (j : Int) := by rw [IntWalk.i64_in _ (by omega)]; omega
              have z2 : (0 : Int) ≤ (j : Int) := by omega
              have z3 : (j : Int) < (l.length : Int) := by omega
              have z4 : (0 : Int) < (k : Int) := by omega
              clear k1 h1 h2 k2 hprev hpf hkd0 hkde hj1 hj k0
              go_upto_region 10 with fail
              go_region_held3 (fun w' => Below w.heap.size w w')
                (first
                  | assumption
                  | go_keep
                  | (exact Below.drew (by assumption))
                  | (first | exact bt HW.out.drew br | exact bt HW.out br))
                (first
                  | (go_at_call 13; refine (HC.out _ (by first | exact HW.out.drew | exact HW.out)).mono ?_; rintro e WA ⟨rfl, br⟩))
              all_goals
                rename Below w.heap.size w _ => b7
                have HB7 := Lib.hid b7
                go_wp2
                go_roundw
                case rel => exact ⟨k + 1, by go_num, by omega, HB7.out⟩
                case measure => simp [intOf]; omega
          · have q2 : (nd.kind == 2) = false := by simp [k2]
            clear k1 h1 h2 k2
            go_upto_region 10 with fail
            go_region_held3 (fun w' => Below w.heap.size w w')
              (first
                | assumption
                | go_keep
                | (exact Below.drew (by assumption))
                | (first | exact bt HW.out.drew br | exact bt HW.out br))
              (first
                | (go_at_call 13; refine (HC.out _ (by first | exact HW.out.drew | exact HW.out)).mono ?_; rintro e WA ⟨rfl, br⟩))
            all_goals
              rename Below w.heap.size w _ => b7
              have HB7 := Lib.hid b7
              go_wp2
              go_roundw
              case rel => exact ⟨k + 1, by go_num, by omega, HB7.out⟩
              case measure => simp [intOf]; omega
      · obtain rfl : k = l.length := by omega
        go_wp2
        go_ret
        exact ⟨rfl, hw⟩
theorem shaped_any (l : List Nd) : ShOk l := by
  suffices h : ∀ k, ∀ l, wtL l ≤ k → ShOk l from h _ l (Nat.le_refl _)
  intro k
  induction k with
  | zero => intro l hl; exact shaped_step l (fun l' h => by omega)
  | succ k ih => intro l hl; exact shaped_step l (fun l' h => ih l' (by omega))

set_option maxHeartbeats 1000000 in
set_option maxRecDepth 100000 in
theorem BuildShape_calls {W : World} {A : Option Addr} {c : Nat} {l : List Tk} (hT : Toks W W.heap.size A l.length l) (hc : l.length ≤ c) (hk : ∀ t ∈ l, KindOk t.kind) :
    Calls Try.prog 4 #[.slice A l.length c] W fun e W' => e = .returned (.bool true) ∧ Below W.heap.size W W' := by
  have hok := cut7_oks hk
  have hlen := cut7_length l
  have hwt := putsZ_wt (cut7 l) ⟨[], []⟩
  have hwt0 : wtL (Zp.tree ⟨[], []⟩) = 0 := rfl
  have hwl : wtL (treeL (cut7 l)) ≤ 1000000 := by unfold treeL; omega
  have hlaw := shape_law (cut7 l)
  clear hwt hwt0
  go_enter Try.func4, Try.ntmps4
  go_wp2_with fail
  refine (Cut7_any hT hc).mono ?_
  rintro e W1 ⟨A1, c1, rfl, h1, hP, b1⟩
  have hT1 : Toks W1 W1.heap.size A1 (cut7 l).length (cut7 l) := hP.lt fun q hq => hq.2
  generalize cut7 l = l7 at *
  clear hT hc hk hP
  go_wp2_with fail
  refine (Tree_any hT1 h1 (by omega) hok).mono ?_
  rintro e W2 ⟨A2, c2, D, rfl, h2, hn2, b2, hD2⟩
  have hN2 : Nodes W2 W2.heap.size A2 (treeL l7).length (treeL l7) := hn2.lt fun q hq => (hD2 q hq).2.1
  go_wp2_with fail
  refine (shaped_any (treeL l7) [] W2 A2 c2 hN2 h2 hwl (fun e => by cases e) hlaw).mono ?_
  rintro e W3 ⟨rfl, b3⟩
  have B3 := (b1.trans (b2.mono b1.size)).trans (b3.mono (Nat.le_trans b1.size b2.size))
  clear hN2 hn2 hT1
  go_wp2_with fail
  refine (lives_any _).mono ?_
  rintro e W4 ⟨rfl, b4⟩
  go_wp2
  go_ret
  exact ⟨rfl, B3.trans (b4.mono B3.size)⟩
end Go.Proofs.Ytlfkipilgdeemaa
