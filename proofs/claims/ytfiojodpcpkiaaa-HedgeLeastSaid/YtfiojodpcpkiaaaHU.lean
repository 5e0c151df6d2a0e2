/- The reference's Least; Same of rows of numbers. -/
import Derived.Test.YtfiojodpcpkiaaaHT
namespace Go.Proofs.Ytfiojodpcpkiaaa
open Go.RowKit Go.Maps Go.WideMaps
attribute [local go_sem ↓] Go.wp_at_zero Go.wp_at_succ

/-- what the least trees weigh that are accepted; -1: there are none -/
def RLeastP (M : Mc) (n : Int) : Prop := (n = -1 ∧ ∀ l, ¬ Acc M l) ∨ (0 ≤ n ∧ n ≤ 1000 ∧ (∃ l, Acc M l ∧ (wtTs l : Int) = n) ∧ ∀ l, Acc M l → n ≤ wtTs l)
/-- the best of the first k -/
def BestP (s : Sd) (o : List Int) (k : Nat) (b : Int) : Prop := (b = -1 ∧ ∀ j, j < k → 0 ≤ o.getD j (-1) → s.tell j ≠ 1) ∨
  (0 ≤ b ∧ (∃ j, j < k ∧ b = o.getD j (-1) ∧ s.tell j = 1) ∧ ∀ j, j < k → 0 ≤ o.getD j (-1) → s.tell j = 1 → b ≤ o.getD j (-1))
theorem BestP.same {s : Sd} {o : List Int} {k : Nat} {b : Int} (h : BestP s o k b) (hk : 0 ≤ o.getD k (-1) → s.tell k = 1 → 0 ≤ b ∧ b ≤ o.getD k (-1)) : BestP s o (k + 1) b := by
  rcases h with ⟨h1, h2⟩ | ⟨h1, ⟨j, h2, h3, h4⟩, h5⟩
  · refine .inl ⟨h1, fun j hj ho ht => ?_⟩
    by_cases hj2 : j < k
    · exact h2 j hj2 ho ht
    · obtain rfl : j = k := by omega
      have := hk ho ht
      omega
  · refine .inr ⟨h1, ⟨j, by omega, h3, h4⟩, fun j' hj ho ht => ?_⟩
    by_cases hj2 : j' < k
    · exact h5 j' hj2 ho ht
    · obtain rfl : j' = k := by omega
      exact (hk ho ht).2
theorem BestP.new {s : Sd} {o : List Int} {k : Nat} {b : Int} (h : BestP s o k b) (h1 : 0 ≤ o.getD k (-1)) (h2 : s.tell k = 1) (h3 : b < 0 ∨ o.getD k (-1) < b) : BestP s o (k + 1) (o.getD k (-1)) := by
  refine .inr ⟨h1, ⟨k, by omega, rfl, h2⟩, fun j hj ho ht => ?_⟩
  by_cases hj2 : j < k
  · rcases h with ⟨h5, h6⟩ | ⟨h5, _, h6⟩
    · exact absurd ht (h6 j hj2 ho)
    · have := h6 j hj2 ho ht
      omega
  · obtain rfl : j = k := by omega
    exact Int.le_refl _
theorem BestP.least {h : Hd} {cs o : List Int} {C b : Int} (hc : CostR h cs) (hr : ReachP h.root cs C o) (hC : C * (h.root.out.length : Int) - C ≤ 1000) (hb : BestP h.root o h.root.out.length b) : RLeastP h.mc b := by
  have hs : h.side h.labs.length = h.root := Hd.side_ge (Nat.le_refl _)
  have hacc : ∀ l, Acc h.mc l → ∃ k, k < h.root.out.length ∧ h.root.tell k = 1 ∧ 0 ≤ o.getD k (-1) ∧ o.getD k (-1) ≤ wtTs l := fun l ⟨k, h1, h2⟩ => by
    have h2' : (h.side h.labs.length).tell k = 1 := h2
    obtain ⟨m, h3, h4⟩ := cmp_list' l h.labs.length 0 k 0 (fun t _ v hv => hc.cmp t v hv) Rch.start h1
    rw [hs] at h2' h3
    have h5 := hr.cmp k m h3
    refine ⟨k, ?_, h2', h5.1, by omega⟩
    have := getD_in h5.1
    rw [hr.len] at this
    exact this
  rcases hb with ⟨h1, h2⟩ | ⟨h1, ⟨j, h2, h3, h4⟩, h5⟩
  · refine .inl ⟨h1, fun l hl => ?_⟩
    obtain ⟨k, e1, e2, e3, _⟩ := hacc l hl
    exact h2 k e1 e3 e2
  · refine .inr ⟨h1, by have := hr.bnd j; omega, ?_, fun l hl => ?_⟩
    · have h6 := hr.snd j (by omega)
      rw [← hs] at h6
      obtain ⟨l, e1, e2⟩ := Rch.trees hc.ci h6
      refine ⟨l, ⟨j, e1, ?_⟩, by omega⟩
      show (h.side h.labs.length).tell j = 1
      rw [hs]
      exact h4
    · obtain ⟨k, e1, e2, e3, e4⟩ := hacc l hl
      have := h5 k e1 e3 e2
      omega

set_option maxHeartbeats 1000000 in
set_option maxRecDepth 100000 in
theorem same_any {w : World} {A B : Option Addr} {cA cB : Nat} {cs : List Int} (H1 : SlP w (fun b => b < w.heap.size) 1 A cs.length (cs.map .i)) (H2 : SlP w (fun b => b < w.heap.size) 1 B cs.length (cs.map .i)) (hl : cs.length ≤ 1000000) :
    Calls Try.prog 22 #[.slice A cs.length cA, .slice B cs.length cB] w fun e w' => e = .returned (.bool true) ∧ Below w.heap.size w w' := by
  have HA := Lib.hid H1
  have HB := Lib.hid H2
  have h0 : ((cs.length : Int) == (cs.length : Int)) = true := by simp
  have h1 : ((cs.length : Int) != (cs.length : Int)) = false := by simp
  clear H1 H2
  go_enter Try.func22, Try.ntmps22
  go_wp2
  go_loopw [5] (fun iv wr => ∃ i : Nat, iv = .int .i64 i ∧ i ≤ cs.length ∧ Below w.heap.size w wr) (fun iv _ => cs.length - (intOf iv).toNat)
  case atStart => exact ⟨0, rfl, Nat.zero_le _, Below.refl _ _⟩
  case round =>
    obtain ⟨i, rfl, hi, hb⟩ := hrel
    have HBB := Lib.hid hb
    clear hb
    by_cases hlt : i < cs.length
    · have hiI : (i : Int) < (cs.length : Int) := by omega
      have hi0 : (0 : Int) ≤ (i : Int) := by omega
      obtain ⟨a, rfl, ha, q0⟩ := ints_at' (Sl.on HA.out HBB.out) (getD_at' (l := cs) hlt)
      obtain ⟨b, rfl, hb, q1⟩ := ints_at' (Sl.on HB.out HBB.out) (getD_at' (l := cs) hlt)
      generalize cs.getD i (-1) = x at *
      have e0 : (x == x) = true := by simp
      have e1 : (x != x) = false := by simp
      go_upto_region 6 with fail
      go_cut [25] (fun s25 wx => s25 = .bool false ∧ wx = wr.drew)
      case first =>
        go_region
        all_goals
          go_wp2_with fail
          go_meet
          exact ⟨rfl, rfl⟩
      case rest =>
        obtain ⟨rfl, rfl⟩ := hcut
        have HB3 := Lib.hid (Below.drew HBB.out)
        go_wp2
        go_roundw
        case rel => exact ⟨i + 1, by go_num, by omega, HB3.out⟩
        case measure => simp [intOf]; omega
    · obtain rfl : cs.length = i := by omega
      go_wp2
      go_ret
      exact ⟨rfl, HBB.out⟩

set_option maxHeartbeats 4000000 in
set_option maxRecDepth 100000 in
theorem rLeast_any {w : World} {h : Hd} {A B C : Option Addr} {c c1 c2 : Nat} (H : HdV w (fun b => b < w.heap.size) h A c B c1 C c2) (hO : HdOk h 4) :
    Calls Try.prog 20 #[hdVal h A c B c1 C c2] w fun e w' => ∃ n : Int, e = .returned (.int .i64 n) ∧ RLeastP h.mc n ∧ Below w.heap.size w w' := by
  have hB0 := (Below.refl _ w).alloc (Nat.le_refl _) (.cells #[.int .i64 h.K, .slice A h.labs.length c, .slice B h.root.nx.length c1, .slice C h.root.out.length c2] 28)
  have hx0 := heap_alloc_new w (.cells #[.int .i64 h.K, .slice A h.labs.length c, .slice B h.root.nx.length c1, .slice C h.root.out.length c2] 28)
  go_enter Try.func20, Try.ntmps20
  go_upto_region 1 with fail
  generalize w.alloc (.cells #[.int .i64 h.K, .slice A h.labs.length c, .slice B h.root.nx.length c1, .slice C h.root.out.length c2] 28) = W1 at *
  have x0 := Lib.cell_of_heap hx0 0
  have x1 := Lib.cell_of_heap hx0 1
  have x2 := Lib.cell_of_heap hx0 2
  have x3 := Lib.cell_of_heap hx0 3
  simp only [List.getElem?_toArray, List.getElem?_cons_zero, List.getElem?_cons_succ] at x0 x1 x2 x3
  have hwl := (Array.getElem?_eq_some_iff.1 hx0).1
  have r0 := fun w' (hw' : Below W1.heap.size W1 w') => (hw'.cell (p := ⟨w.heap.size, 0, none⟩) hwl).trans x0
  have r1 := fun w' (hw' : Below W1.heap.size W1 w') => (hw'.cell (p := ⟨w.heap.size, 1, none⟩) hwl).trans x1
  have r2 := fun w' (hw' : Below W1.heap.size W1 w') => (hw'.cell (p := ⟨w.heap.size, 2, none⟩) hwl).trans x2
  have r3 := fun w' (hw' : Below W1.heap.size W1 w') => (hw'.cell (p := ⟨w.heap.size, 3, none⟩) hwl).trans x3
  have HB := Lib.hid hB0
  have HX0 := Lib.hid hx0
  have HV := Lib.hid (H.on hB0)
  have hroot := hO.root
  have hsz4 := hO.fewR
  have hK4 : h.K.toNat ≤ 4 := by have := hO.fewK; omega
  have HC : Hid (∀ w', Below W1.heap.size W1 w' → Calls Try.prog 23 #[hdVal h A c B c1 C c2] w' (RCostsRet h w')) := Lib.hid fun w' hw' => rCosts_any (HV.out.on hw') hO
  have HR : Hid (∀ w' base g K cs, Below W1.heap.size W1 w' → h.K.toNat = K → cs.length = K → w'.ownsRow base 3 1 (.slice (some ⟨g, 0, none⟩) K K) K (ints cs) → CostR h cs → Calls Try.prog 33 #[sdVal h.root B c1 C c2, .slice (some ⟨g, 0, none⟩) K K] w' (ReachRet h.root cs (TT (setN cs)) w')) :=
    Lib.hid fun w' base g K cs hw' hK hl ho hc => by
      have hset := setN_le cs
      have hTT := TT_40 (m := setN cs) (by omega)
      have h9 := reach_any (cA := K) (HV.out.on hw').root hroot (own_slp ho hl) (by omega) hc.ci.bnd (TT_nonneg _) (by omega) hsz4 (by omega)
      rw [hl] at h9
      exact h9
  have HN := Lib.hid (And.intro hroot (And.intro hsz4 hK4))
  have hb0 : Below W1.heap.size W1 W1 := Below.refl _ _
  clear hB0 hx0 H x0 x1 x2 x3 hroot hsz4 hK4
  go_cut [3] (fun s3 wx => ∃ (base g : Nat) (cs o : List Int), s3 = .slice (some ⟨g, 0, none⟩) h.root.out.length h.root.out.length ∧ Hid (wx.ownsRow base 3 1 (.slice (some ⟨g, 0, none⟩) h.root.out.length h.root.out.length) h.root.out.length (ints o) ∧ CostR h cs ∧ ReachP h.root cs (TT (setN cs)) o) ∧ Below W1.heap.size W1 wx)
  case first =>
    go_region_held3 (fun w' => Below W1.heap.size W1 w')
      (repeat (first | assumption | with_reducible refine Below.drew ?_ | with_reducible refine bt (a := W1) ?_ br | with_reducible refine bt (a := W1) ?_ br2))
      (first
        | (go_at_call 23; refine (HC.out _ (by assumption)).mono ?_; rintro e WA ⟨g, K, cs, rfl, h1, h2, h3, h4, br⟩)
        | (go_at_call 33; refine (HR.out _ _ _ _ _ (by assumption) h1 h2 h3 h4).mono ?_; rintro e WB ⟨go, o, rfl, ho1, ho2, ho3, br2⟩))
    all_goals
      go_wp2_with fail
      go_meet
      exact ⟨_, go, _, o, rfl, Lib.hid ⟨ho2, h4, ho3⟩, by (repeat (first | assumption | with_reducible refine Below.drew ?_ | with_reducible refine bt (a := W1) ?_ br | with_reducible refine bt (a := W1) ?_ br2))⟩
  case rest =>
    obtain ⟨base, g, cs, o, rfl, hP, hbx⟩ := hcut
    rename World => W2
    have HB2 := Lib.hid hbx
    have HP := Lib.hid (show W2.ownsRow base 3 1 (.slice (some ⟨g, 0, none⟩) h.root.out.length h.root.out.length) h.root.out.length (ints o) ∧ o.length = h.root.out.length ∧ h.root.out.length ≤ 4 ∧ SdOk h.root h.K.toNat 2 from ⟨hP.out.1, hP.out.2.2.len, HN.out.2.1, HN.out.1⟩)
    have HL := Lib.hid (fun b (hb : BestP h.root o h.root.out.length b) => hb.least hP.out.2.1 hP.out.2.2 (by
      have h1 := TT_40 (m := setN cs) (by have := setN_le cs; have := hP.out.2.1.ci.len; have := HN.out.2.2; omega)
      have h2 := TT_nonneg (setN cs)
      have h3 := mulC_le h2 HN.out.2.1
      have h4 : TT (setN cs) * ((4 : Nat) : Int) = 4 * TT (setN cs) := Int.mul_comm _ _
      omega))
    have HV2 := Lib.hid ((HV.out.on hbx).root.out)
    have r2' := r2 W2 hbx
    have r3' := r3 W2 hbx
    clear hbx hP r0 r1 r2 r3 HC HR HN HX0 HV
    have hn4 := HP.out.2.2.1
    generalize hnn : h.root.out.length = n at *
    have HNN := Lib.hid hnn
    clear hnn
    go_wp2
    go_loopw [5, 4] (fun iv bv wr => ∃ (k : Nat) (b : Int), iv = .int .i64 k ∧ bv = .int .i64 b ∧ k ≤ n ∧ Hid (BestP h.root o k b) ∧ wr = W2) (fun iv _ _ => n - (intOf iv).toNat)
    case atStart => exact ⟨0, -1, rfl, rfl, Nat.zero_le _, Lib.hid (.inl ⟨rfl, fun j hj => by omega⟩), rfl⟩
    case round =>
      obtain ⟨k, b, rfl, rfl, hk, hb, rfl⟩ := hrel
      by_cases hlt : k < n
      · have hkI : (k : Int) < (n : Int) := by omega
        have hk0 : (0 : Int) ≤ (k : Int) := by omega
        have hol := HP.out.2.1
        obtain ⟨cur1, q1, q2, q3, q4, q5, q6⟩ := own_open HP.out.1
        have y0 := (Lib.cell_of_heap q1 k).trans (q6 k _ (ints_atD (l := o) (by omega)))
        obtain ⟨t1, t2⟩ := HP.out.2.2.2.tell (i := k) (by rw [HNN.out]; exact hlt)
        obtain ⟨ao, rfl, hao, w1'⟩ := ints_at' HV2.out t1
        have HSAME := Lib.hid (fun h9 => hb.out.same (k := k) h9)
        have HNEW := Lib.hid (fun h1 h2 h3 => hb.out.new (k := k) h1 h2 h3)
        clear q1 q2 q3 q4 q5 q6 hol t1 hb HL
        generalize o.getD k (-1) = ok at *
        generalize h.root.tell k = tk at *
        by_cases h1 : 0 ≤ ok
        · have htk : tk = 0 ∨ tk = 1 := by omega
          rcases htk with rfl | rfl
          · have HB3 := Lib.hid (HSAME.out (fun _ h => by omega))
            go_wp2
            go_roundw
            case rel => exact ⟨k + 1, b, by go_num, rfl, by omega, HB3, trivial⟩
            case measure => simp [intOf]; omega
          · by_cases h2 : b < 0
            · have HB3 := Lib.hid (HNEW.out h1 rfl (.inl h2))
              go_wp2
              go_roundw
              case rel => exact ⟨k + 1, ok, by go_num, rfl, by omega, HB3, trivial⟩
              case measure => simp [intOf]; omega
            · by_cases h3 : ok < b
              · have HB3 := Lib.hid (HNEW.out h1 rfl (.inr h3))
                go_wp2
                go_roundw
                case rel => exact ⟨k + 1, ok, by go_num, rfl, by omega, HB3, trivial⟩
                case measure => simp [intOf]; omega
              · have HB3 := Lib.hid (HSAME.out (fun _ _ => by omega))
                go_wp2
                go_roundw
                case rel => exact ⟨k + 1, b, by go_num, rfl, by omega, HB3, trivial⟩
                case measure => simp [intOf]; omega
        · have HB3 := Lib.hid (HSAME.out (fun h _ => by omega))
          go_wp2
          go_roundw
          case rel => exact ⟨k + 1, b, by go_num, rfl, by omega, HB3, trivial⟩
          case measure => simp [intOf]; omega
      · obtain rfl : n = k := by omega
        have HRET := Lib.hid (HL.out b hb.out)
        have HB3 := Lib.hid (HB.out.trans (HB2.out.mono HB.out.size))
        go_wp2
        go_ret
        exact ⟨b, rfl, HRET.out, HB3.out⟩
end Go.Proofs.Ytfiojodpcpkiaaa
