/- right, sound, May. Plain: what a finder that has come to its end has found, in trees. Least, Costs: of one automaton. both: the side of two. The document's put: trees with one more at the end of a path. The document's round, good: a side that may be. -/
import Derived.Test.YtnkelhmjkmeilaaGreatDoorT19
import Derived.Test.YtnkelhmjkmeilaaGreatDoorT20
import Derived.Test.YtnkelhmjkmeilaaGreatDoorT24
import Derived.Test.YtnkelhmjkmeilaaGreatDoorT26
import Derived.Test.YtnkelhmjkmeilaaGreatDoorT16
import Derived.Test.YtnkelhmjkmeilaaGreatDoorT22
import Derived.Test.YtnkelhmjkmeilaaGreatDoorT21
section
namespace Go.Proofs.YtnkelhmjkmeilaaGreatDoor.H
open Go.RowKit Go.Maps Go.WideMaps
attribute [local go_sem ↓] Go.wp_at_zero Go.wp_at_succ
def RowP (s : Sd) (K o : Int) (i : Nat) : Prop := ∃ x r, s.out[i]? = some x ∧ 0 ≤ x ∧ x < o ∧ s.nx[i]? = some r ∧ (r.length : Int) = K ∧ ∀ y ∈ r, 0 ≤ y ∧ y < s.out.length
def RightP (s : Sd) (K o : Int) : Prop := 0 < s.out.length ∧ s.nx.length = s.out.length ∧ ∀ i, i < s.out.length → RowP s K o i
def TellB (P : Prop) (w : World) (e : Ending) (w' : World) : Prop := ∃ b, e = .returned (.bool b) ∧ (b = true ↔ P) ∧ Below w.heap.size w w'
theorem TellB.yes {P : Prop} {w w' : World} (h : P) (hb : Below w.heap.size w w') : TellB P w (.returned (.bool true)) w' := ⟨true, rfl, ⟨fun _ => h, fun _ => rfl⟩, hb⟩
theorem TellB.no {P : Prop} {w w' : World} (h : ¬ P) (hb : Below w.heap.size w w') : TellB P w (.returned (.bool false)) w' := ⟨false, rfl, ⟨(fun e => by cases e), fun e => absurd e h⟩, hb⟩
set_option maxHeartbeats 2000000 in
set_option maxRecDepth 100000 in
theorem right_any {w : World} {s : Sd} {B C : Option Addr} {c1 c2 : Nat} (H : SdV w (fun b => b < w.heap.size) s B c1 C c2) (K o : Int) :
    Calls Tryz.prog 109 #[sdVal s B c1 C c2, .int .i64 K, .int .i64 o] w (TellB (RightP s K o) w) := by
  have hB0 := (Below.refl _ w).alloc (Nat.le_refl _) (.cells #[.slice B s.nx.length c1, .slice C s.out.length c2] 113)
  have hx0 := heap_alloc_new w (.cells #[.slice B s.nx.length c1, .slice C s.out.length c2] 113)
  have H1 := H.on hB0
  have HPD : RightP s K o ↔ (0 < s.out.length ∧ s.nx.length = s.out.length ∧ ∀ i, i < s.out.length → RowP s K o i) := Iff.rfl
  generalize hP : RightP s K o = P at *
  clear hP
  obtain ⟨on, hon⟩ : ∃ on, on = s.out.length := ⟨_, rfl⟩
  obtain ⟨nn, hnn⟩ : ∃ nn, nn = s.nx.length := ⟨_, rfl⟩
  go_enter Tryz.func109, Tryz.ntmps109
  go_upto_region 1 with fail
  generalize w.alloc (.cells #[.slice B s.nx.length c1, .slice C s.out.length c2] 113) = W1 at *
  have x0 := Lib.cell_of_heap hx0 0
  have x1 := Lib.cell_of_heap hx0 1
  simp only [List.getElem?_toArray, List.getElem?_cons_zero, List.getElem?_cons_succ] at x0 x1
  rw [← hon, ← hnn] at HPD
  rw [← hnn] at x0
  rw [← hon] at x1
  have HP := Lib.hid HPD
  have HB := Lib.hid hB0
  have HV := Lib.hid H1
  have HE := Lib.hid (And.intro hon hnn)
  have hob : on ≤ 9223372036854775807 := by rw [hon]; exact H.le2.len
  clear HPD hB0 hx0 H1 H hon hnn
  by_cases h0 : on = 0
  · have HN := Lib.hid (show ¬ P from fun h => by have := (HP.out.1 h).1; omega)
    have h1 : (on : Int) < 1 := by omega
    clear h0
    go_wp2
    go_ret
    exact TellB.no HN.out HB.out
  · have h1 : ¬ (on : Int) < 1 := by omega
    by_cases hl : nn = on
    · have hb : ((nn : Int) == (on : Int)) = true := by simp [hl]
      have HL := Lib.hid hl
      clear hl
      go_wp2
      go_loop [27] (fun iv => ∃ i : Nat, iv = .int .i64 i ∧ i ≤ on ∧ Hid (∀ j, j < i → RowP s K o j)) (fun iv => on - (intOf iv).toNat)
      case atStart => exact ⟨0, rfl, Nat.zero_le _, fun j hj => by omega⟩
      case round =>
        obtain ⟨i, rfl, hi, hall⟩ := hrel
        by_cases hlt : i < on
        · obtain ⟨x, hx⟩ : ∃ x, s.out[i]? = some x := ⟨s.out[i]'(by rw [← HE.out.1]; exact hlt), List.getElem?_eq_getElem _⟩
          obtain ⟨r, hr⟩ : ∃ r, s.nx[i]? = some r := ⟨s.nx[i]'(by rw [← HE.out.2, HL.out]; exact hlt), List.getElem?_eq_getElem _⟩
          obtain ⟨a, rfl, hab, k0⟩ := ints_at' HV.out.out hx
          obtain ⟨a2, R, rc, rfl, hab2, k1, hrc, hrow⟩ := HV.out.row_at hr
          have hrb := hrc.len
          have hnI : (i : Int) < (nn : Int) := by have := HL.out; omega
          have hoI : (i : Int) < (on : Int) := by omega
          have hi0 : (0 : Int) ≤ (i : Int) := by omega
          have HXR := Lib.hid (And.intro hx hr)
          have HROW := Lib.hid hrow
          clear hx hr hrow
          have HNO := Lib.hid (show ¬ (0 ≤ x ∧ x < o ∧ (r.length : Int) = K) → ¬ P from fun hn h => by
            obtain ⟨x', r', e1, e2, e3, e4, e5, _⟩ := (HP.out.1 h).2.2 i hlt
            rw [HXR.out.1] at e1
            rw [HXR.out.2] at e4
            injection e1 with e1
            injection e4 with e4
            subst e1 e4
            exact hn ⟨e2, e3, e5⟩)
          by_cases q1 : x < 0
          · have HN := Lib.hid (HNO.out (fun h => by omega))
            go_wp2
            go_ret
            exact TellB.no HN.out HB.out
          · by_cases q2 : o ≤ x
            · have HN := Lib.hid (HNO.out (fun h => by omega))
              go_wp2
              go_ret
              exact TellB.no HN.out HB.out
            · by_cases q3 : (r.length : Int) = K
              · have q3b : ((r.length : Int) == K) = true := by simp [q3]
                have HQ3 := Lib.hid q3
                clear q3
                go_wp2
                go_loop [55] (fun jv => ∃ j : Nat, jv = .int .i64 j ∧ j ≤ r.length ∧ Hid (∀ k y, k < j → r[k]? = some y → 0 ≤ y ∧ y < on)) (fun jv => r.length - (intOf jv).toNat)
                case atStart => exact ⟨0, rfl, Nat.zero_le _, fun k y hk => by omega⟩
                case round =>
                  obtain ⟨j, rfl, hj, hin⟩ := hrel
                  by_cases hjl : j < r.length
                  · obtain ⟨y, hy⟩ : ∃ y, r[j]? = some y := ⟨r[j], List.getElem?_eq_getElem _⟩
                    obtain ⟨a3, rfl, hab3, k2⟩ := ints_at' HROW.out hy
                    have hjI : (j : Int) < (r.length : Int) := by omega
                    have hj0 : (0 : Int) ≤ (j : Int) := by omega
                    have HY := Lib.hid hy
                    clear hy
                    have HNY := Lib.hid (show ¬ (0 ≤ y ∧ y < (on : Int)) → ¬ P from fun hn h => by
                      obtain ⟨x', r', e1, e2, e3, e4, e5, e6⟩ := (HP.out.1 h).2.2 i hlt
                      rw [HXR.out.2] at e4
                      injection e4 with e4
                      subst e4
                      have := e6 y (List.mem_of_getElem? HY.out)
                      rw [← HE.out.1] at this
                      exact hn this)
                    by_cases w1 : y < 0
                    · have HN := Lib.hid (HNY.out (fun h => by omega))
                      go_wp2
                      go_ret
                      exact TellB.no HN.out HB.out
                    · by_cases w2 : (on : Int) ≤ y
                      · have HN := Lib.hid (HNY.out (fun h => by omega))
                        go_wp2
                        go_ret
                        exact TellB.no HN.out HB.out
                      · have HS := Lib.hid (show ∀ k z, k < j + 1 → r[k]? = some z → 0 ≤ z ∧ z < (on : Int) from fun k z hk hz => by
                          rcases Nat.lt_or_ge k j with h9 | h9
                          · exact hin.out k z h9 hz
                          · obtain rfl : k = j := by omega
                            rw [HY.out] at hz
                            injection hz with hz
                            omega)
                        go_wp2
                        go_round
                        case rel => exact ⟨j + 1, by go_num, by omega, HS.out⟩
                        case measure => simp [intOf]; omega
                  · obtain rfl : j = r.length := by omega
                    have HS := Lib.hid (show ∀ j, j < i + 1 → RowP s K o j from fun j hj => by
                      rcases Nat.lt_or_ge j i with h9 | h9
                      · exact hall.out j h9
                      · obtain rfl : j = i := by omega
                        refine ⟨x, r, HXR.out.1, by omega, by omega, HXR.out.2, HQ3.out, fun y hy => ?_⟩
                        obtain ⟨k, hk, rfl⟩ := List.mem_iff_getElem.1 hy
                        have := hin.out k _ hk (List.getElem?_eq_getElem hk)
                        rw [HE.out.1] at this
                        exact this)
                    go_wp2
                    go_round
                    case rel => exact ⟨i + 1, by go_num, by omega, HS.out⟩
                    case measure => simp [intOf]; omega
              · have q3b : ((r.length : Int) == K) = false := by simp [q3]
                have HN := Lib.hid (HNO.out (fun h => q3 h.2.2))
                clear q3
                go_wp2
                go_ret
                exact TellB.no HN.out HB.out
        · obtain rfl : i = on := by omega
          have HY := Lib.hid (HP.out.2 ⟨by omega, HL.out, hall.out⟩)
          go_wp2
          go_ret
          exact TellB.yes HY.out HB.out
    · have hb : ((nn : Int) == (on : Int)) = false := by simp; omega
      have HN := Lib.hid (show ¬ P from fun h => hl (HP.out.1 h).2.1)
      clear hl
      go_wp2
      go_ret
      exact TellB.no HN.out HB.out
def SoundP (h : Hd) : Prop := 1 ≤ h.K ∧ RightP h.root h.K 2 ∧ ∀ (k : Nat) (s : Sd), h.labs[k]? = some s → RightP s h.K h.K
theorem TellB.mono {P Q : Prop} {w _w1 w' : World} {e : Ending} (h : TellB P w e w') (hq : P ↔ Q) : TellB Q w e w' := by
  obtain ⟨b, h1, h2, h3⟩ := h
  exact ⟨b, h1, h2.trans hq, h3⟩
set_option maxHeartbeats 2000000 in
set_option maxRecDepth 100000 in
theorem sound_any {w : World} {h : Hd} {A B C : Option Addr} {c c1 c2 : Nat} (H : HdV w (fun b => b < w.heap.size) h A c B c1 C c2) :
    Calls Tryz.prog 76 #[hdVal h A c B c1 C c2] w (TellB (SoundP h) w) := by
  have hB0 := (Below.refl _ w).alloc (Nat.le_refl _) (.cells #[.int .i64 h.K, .slice A h.labs.length c, .slice B h.root.nx.length c1, .slice C h.root.out.length c2] 115)
  have hx0 := heap_alloc_new w (.cells #[.int .i64 h.K, .slice A h.labs.length c, .slice B h.root.nx.length c1, .slice C h.root.out.length c2] 115)
  have H1 := H.on hB0
  have HPD : SoundP h ↔ (1 ≤ h.K ∧ RightP h.root h.K 2 ∧ ∀ (k : Nat) (s : Sd), h.labs[k]? = some s → RightP s h.K h.K) := Iff.rfl
  generalize hP : SoundP h = P at *
  clear hP
  have hlb := H.le.len
  go_enter Tryz.func76, Tryz.ntmps76
  go_upto_region 1 with fail
  generalize w.alloc (.cells #[.int .i64 h.K, .slice A h.labs.length c, .slice B h.root.nx.length c1, .slice C h.root.out.length c2] 115) = W1 at *
  have x0 := Lib.cell_of_heap hx0 0
  have x1 := Lib.cell_of_heap hx0 1
  have x2 := Lib.cell_of_heap hx0 2
  have x3 := Lib.cell_of_heap hx0 3
  simp only [List.getElem?_toArray, List.getElem?_cons_zero, List.getElem?_cons_succ] at x0 x1 x2 x3
  have HP := Lib.hid HPD
  have HB := Lib.hid hB0
  have HV := Lib.hid H1
  have HX := Lib.hid hx0
  have hwl := (Array.getElem?_eq_some_iff.1 hx0).1
  clear HPD hB0 hx0 H1 H
  by_cases h0 : h.K < 1
  · have HN := Lib.hid (show ¬ P from fun h => by have := (HP.out.1 h).1; omega)
    go_wp2
    go_ret
    exact TellB.no HN.out HB.out
  · have HR := Lib.hid (right_any HV.out.root h.K 2)
    go_wp2_with fail
    refine HR.out.mono ?_
    rintro e W2 ⟨b, rfl, hb, b2⟩
    have HB2 := Lib.hid b2
    have HBW := Lib.hid (HB.out.trans (b2.mono HB.out.size))
    clear b2
    cases b with
    | false =>
      have HN := Lib.hid (show ¬ P from fun h => by have := hb.2 (HP.out.1 h).2.1; cases this)
      clear hb
      go_wp2
      go_ret
      exact TellB.no HN.out HBW.out
    | true =>
      have HRT := Lib.hid (hb.1 rfl)
      have hx2 := (HB2.out.block _ hwl).trans HX.out
      replace x0 := Lib.cell_of_heap hx2 0
      replace x1 := Lib.cell_of_heap hx2 1
      replace x2 := Lib.cell_of_heap hx2 2
      replace x3 := Lib.cell_of_heap hx2 3
      simp only [List.getElem?_toArray, List.getElem?_cons_zero, List.getElem?_cons_succ] at x0 x1 x2 x3
      have HX2 := Lib.hid hx2
      have HV2 := Lib.hid (HV.out.on HB2.out)
      have hwl2 := (Array.getElem?_eq_some_iff.1 hx2).1
      clear hb hx2
      go_wp2
      go_loopw [19] (fun iv wr => ∃ i : Nat, iv = .int .i64 i ∧ i ≤ h.labs.length ∧ Hid (∀ (j : Nat) (s : Sd), j < i → h.labs[j]? = some s → RightP s h.K h.K) ∧ Below W2.heap.size W2 wr) (fun iv _ => h.labs.length - (intOf iv).toNat)
      case atStart => exact ⟨0, rfl, Nat.zero_le _, (fun j s hj => by omega), Below.refl _ _⟩
      case round =>
        obtain ⟨i, rfl, hi, hall, hbr⟩ := hrel
        have hx3 := (hbr.block _ hwl2).trans HX2.out
        have z0 := Lib.cell_of_heap hx3 0
        simp only [List.getElem?_toArray, List.getElem?_cons_zero] at z0
        have HBR := Lib.hid hbr
        have HVr := Lib.hid (HV2.out.on hbr)
        clear hbr hx3
        by_cases hlt : i < h.labs.length
        · obtain ⟨s, hs⟩ : ∃ s, h.labs[i]? = some s := ⟨_, List.getElem?_eq_getElem hlt⟩
          obtain ⟨a, B', c1', C', c2', rfl, hab, k0, k1, hsd⟩ := labs_at HVr.out.labs hs
          have hiI : (i : Int) < (h.labs.length : Int) := by omega
          have hi0 : (0 : Int) ≤ (i : Int) := by omega
          have hal := (Below.refl _ wr).alloc (Nat.le_refl _) (.cells #[.slice B' s.nx.length c1', .slice C' s.out.length c2'] 113)
          have hxa := heap_alloc_new wr (.cells #[.slice B' s.nx.length c1', .slice C' s.out.length c2'] 113)
          have hx3 := (hal.block _ (Nat.lt_of_lt_of_le hwl2 HBR.out.size)).trans ((HBR.out.block _ hwl2).trans HX2.out)
          have HR := Lib.hid (right_any (hsd.on hal) h.K h.K)
          have HS := Lib.hid hs
          have HAL := Lib.hid hal
          have hyy := Lib.cell_of_heap hxa 0
          have hyz := Lib.cell_of_heap hxa 1
          have z1 := Lib.cell_of_heap hx3 0
          simp only [List.getElem?_toArray, List.getElem?_cons_zero, List.getElem?_cons_succ] at hyy hyz z1
          clear hs hsd hal hxa hx3
          go_upto_region 6 with fail
          have hsz4 : wr.heap.size < (wr.alloc (.cells #[.slice B' s.nx.length c1', .slice C' s.out.length c2'] 113)).heap.size := by rw [World.size_alloc]; omega
          generalize wr.alloc (.cells #[.slice B' s.nx.length c1', .slice C' s.out.length c2'] 113) = W4 at *
          go_wp2_with fail
          refine HR.out.mono ?_
          rintro e W5 ⟨b, rfl, hb, b5⟩
          have hs2 := HBR.out.size
          have hs4 := HAL.out.size
          have HB5 := Lib.hid ((HBR.out.trans (HAL.out.mono hs2)).trans (b5.mono (by omega)))
          clear b5
          cases b with
          | false =>
            have HN := Lib.hid (show ¬ P from fun h => by have := hb.2 ((HP.out.1 h).2.2 i s HS.out); cases this)
            have HBF := Lib.hid (HBW.out.trans (HB5.out.mono HBW.out.size))
            clear hb
            go_wp2
            go_ret
            exact TellB.no HN.out HBF.out
          | true =>
            have HAA := Lib.hid (show ∀ (j : Nat) (s : Sd), j < i + 1 → h.labs[j]? = some s → RightP s h.K h.K from fun j s' hj hs' => by
              rcases Nat.lt_or_ge j i with h9 | h9
              · exact hall.out j s' h9 hs'
              · obtain rfl : j = i := by omega
                rw [HS.out] at hs'
                injection hs' with hs'
                subst hs'
                exact hb.1 rfl)
            clear hb
            go_wp2
            go_roundw
            case rel => exact ⟨i + 1, by go_num, by omega, HAA.out, HB5.out⟩
            case measure => simp [intOf]; omega
        · obtain rfl : i = h.labs.length := by omega
          have HY := Lib.hid (HP.out.2 ⟨by omega, HRT.out, fun k s hk => hall.out k s (by
            rcases Nat.lt_or_ge k h.labs.length with h9 | h9
            · exact h9
            · rw [List.getElem?_eq_none h9] at hk; cases hk) hk⟩)
          have HBF := Lib.hid (HBW.out.trans (HBR.out.mono HBW.out.size))
          go_wp2
          go_ret
          exact TellB.yes HY.out HBF.out
theorem SdOk.right {s : Sd} {K o : Nat} (h : SdOk s K o) : RightP s K o := by
  refine ⟨h.pos, h.len, fun i hi => ?_⟩
  have hi' : i < s.nx.length := by rw [h.len]; exact hi
  obtain ⟨h1, h2⟩ := h.rows s.nx[i] (List.getElem_mem _)
  obtain ⟨h3, h4⟩ := h.outs s.out[i] (List.getElem_mem _)
  exact ⟨s.out[i], s.nx[i], List.getElem?_eq_getElem hi, h3, h4, List.getElem?_eq_getElem hi', by omega, fun y hy => h2 y hy⟩
theorem HdOk.sound {h : Hd} {m : Nat} (H : HdOk h m) : SoundP h := by
  have hK : ((h.K.toNat : Nat) : Int) = h.K := Int.toNat_of_nonneg (by have := H.K1; omega)
  refine ⟨H.K1, ?_, fun k s hk => ?_⟩
  · have := H.root.right
    rw [hK] at this
    exact this
  · have := (H.labs s (List.mem_of_getElem? hk)).right
    rw [hK] at this
    exact this
end Go.Proofs.YtnkelhmjkmeilaaGreatDoor.H
end
section
namespace Go.Proofs.YtnkelhmjkmeilaaGreatDoor.H
theorem addC_eq' {a b c : Nat} (h : c = addC a b) (hc : c < topC) : c = a + b := by
  unfold addC at h
  split at h
  · omega
  · exact h
theorem thrT_snoc {M : Mc} {n s v : Nat} {l : List Tr} {t : Tr} (h : thrT M n 0 l = some s) (h2 : stT M t = some v) : thrT M n 0 (l ++ [t]) = some (M.nx n s v) := by
  rw [thrT_append, h, Option.bind_some, thrT, h2]
  show thrT M n _ [] = _
  rw [thrT]
theorem Rd'.tree {M : Mc} {N n s c : Nat} (h : Rd' M N n s c) : ∃ l, thrT M n 0 l = some s := by
  induction h with
  | start _ => exact ⟨[], rfl⟩
  | @step n s c n2 s2 c2 _ h2 _ ih1 ih2 =>
    obtain ⟨l1, e1⟩ := ih1
    obtain ⟨l2, e2⟩ := ih2
    refine ⟨l1 ++ [.mk (n2 : Int) l2], thrT_snoc e1 ?_⟩
    rw [stT_mk M h2, e2]
    rfl
theorem Paths.trees {M : Mc} {f : FS} (hP : Paths M f) : ∀ (b n s : Nat) (k : Stp), f.mar n s = some (k, true) → k.cost < b → b ≤ topC → ∃ l, thrT M n 0 l = some s ∧ wtTs l = k.cost := by
  intro b
  induction b with
  | zero => intro n s k _ h; omega
  | succ b ih =>
    intro n s k hk hc hb
    obtain ⟨p1, p2, p3, p4, p5, p6⟩ := hP.mks n s k hk
    rcases p6 with ⟨r1, r2, r3⟩ | ⟨s0, v, k0, src, r1, r2, r3, r4, r5, r6⟩
    · exact ⟨[], by rw [← p2, r1]; rfl, by rw [r2]; rfl⟩
    · obtain ⟨g1, g2, k2, g3, g4⟩ := hP.fn v src r4
      rw [p1] at r3 r6
      have hge := addC_ge' (a := k0.cost) (b := src.cost) (by rw [g4]; exact addC_le _ _)
      have e1 : src.cost = k2.cost + 1 := addC_eq' g4 (by omega)
      have e2 : k.cost = k0.cost + src.cost := addC_eq' r5 (by omega)
      obtain ⟨l0, h1, h2⟩ := ih n s0 k0 r3 (by omega) (by omega)
      obtain ⟨l2, h3, h4⟩ := ih _ _ k2 g3 (by omega) (by omega)
      refine ⟨l0 ++ [.mk src.num l2], ?_, ?_⟩
      · have := thrT_snoc (t := .mk src.num l2) (v := v) h1 (by rw [stT_mk M g1, h3, Option.map_some, g2])
        rw [this, r6, p2]
      · rw [wtTs_append, wtTs, wtTs, wtT]; omega
structure CostsP (M : Mc) (c : Nat → Int) : Prop where
  none : ∀ v, c v < 0 → c v = -1 ∧ ∀ t, stT M t = some v → topC ≤ wtT t
  some : ∀ v, 0 ≤ c v → 1 ≤ c v ∧ c v ≤ topC ∧ (∃ t, stT M t = Option.some v) ∧ (c v < topC → ∃ t, stT M t = Option.some v ∧ (wtT t : Int) = c v) ∧ ∀ t, stT M t = Option.some v → c v ≤ wtT t
  bare : ∀ i, i < M.L → c (M.out i 0) = 1
  on : ∀ i v, i < M.L → 0 ≤ c v → 0 ≤ c (M.out i (M.nx i 0 v)) ∧ c (M.out i (M.nx i 0 v)) ≤ c v + 1
end Go.Proofs.YtnkelhmjkmeilaaGreatDoor.H
end
section
namespace Go.Proofs.YtnkelhmjkmeilaaGreatDoor.H
open Go.RowKit Go.Maps Go.WideMaps
attribute [local go_sem ↓] Go.wp_at_zero Go.wp_at_succ
theorem LeastRet.from {M : Mc} {w W w' : World} {e : Ending} (h : LeastRet M W e w') (hb : Below w.heap.size w W) : LeastRet M w e w' := by
  obtain ⟨h1, h2⟩ := h
  refine ⟨hb.trans (h1.mono hb.size), ?_⟩
  rcases h2 with ⟨A, c, l, e1, e2, e3, e4, e5, e6⟩ | h2
  · exact .inl ⟨A, c, l, e1, e2, e3.more fun b hb' => ⟨Nat.le_trans hb.size hb'.1, hb'.2⟩, e4, e5, e6⟩
  · exact .inr h2
theorem LeastRet.shape {M : Mc} {w w' : World} {e : Ending} (h : LeastRet M w e w') : ∃ A n c b, e = .returned (.tuple #[.slice A n c, .bool b]) := by
  rcases h.2 with ⟨A, c, l, e1, _⟩ | ⟨e1, _⟩
  · exact ⟨A, _, c, true, e1⟩
  · exact ⟨none, 0, 0, false, e1⟩
theorem ints_set (l : List Int) (i : Nat) (x : Int) : (ints l).set i (.int .i64 x) = ints (l.set i x) := by unfold ints; rw [List.map_set]
end Go.Proofs.YtnkelhmjkmeilaaGreatDoor.H
end
section
namespace Go.Proofs.YtnkelhmjkmeilaaGreatDoor.H
open Go.RowKit Go.Maps Go.WideMaps
attribute [local go_sem ↓] Go.wp_at_zero Go.wp_at_succ
def fillL {α : Type} (F : Nat → α) (z : α) (M i : Nat) : List α := (List.range M).map fun v => if v < i then F v else z
theorem fillL_len {α : Type} (F : Nat → α) (z : α) (M i : Nat) : (fillL F z M i).length = M := by simp [fillL]
theorem fillL_set {α : Type} (F : Nat → α) (z : α) {M i : Nat} (hi : i < M) : (fillL F z M i).set i (F i) = fillL F z M (i + 1) := by
  apply List.ext_getElem?
  intro v
  rw [List.getElem?_set]
  unfold fillL
  by_cases hv : v < M
  · by_cases e : i = v
    · subst e
      simp [hi]
    · simp only [e, if_false, List.getElem?_map, List.getElem?_range hv, Option.map_some]
      congr 1
      by_cases h2 : v < i
      · rw [if_pos h2, if_pos (by omega)]
      · rw [if_neg h2, if_neg (by omega)]
  · rw [if_neg (by omega), List.getElem?_eq_none (by simp; omega), List.getElem?_eq_none (by simp; omega)]
theorem fillL_same {α : Type} {F G : Nat → α} {z : α} {M i : Nat} (h : ∀ v, v < i → F v = G v) : fillL F z M i = fillL G z M i := by
  unfold fillL
  apply List.map_congr_left
  intro v _
  by_cases hv : v < i
  · rw [if_pos hv, if_pos hv, h v hv]
  · rw [if_neg hv, if_neg hv]
theorem fillL_all {α : Type} (F : Nat → α) (z : α) (M : Nat) : fillL F z M M = (List.range M).map F := by
  unfold fillL
  apply List.map_congr_left
  intro v hv
  rw [if_pos (List.mem_range.1 hv)]
theorem fillL_at {α : Type} (F : Nat → α) (z : α) {M i v : Nat} (hv : v < M) : (fillL F z M i)[v]? = some (if v < i then F v else z) := by simp [fillL, hv]
theorem made_fill (z : Value) (F : Nat → Value) (n : Nat) : (madeCells #[z] n).toList = fillL F z n 0 := by
  apply List.ext_getElem?
  intro i
  by_cases hi : i < n
  · simp [madeCells, hi, Nat.mod_one, fillL]
  · simp [madeCells, hi, Nat.mod_one, fillL]
theorem ints_fill (F : Nat → Int) (n i : Nat) : fillL (fun v => Value.int .i64 (F v)) (.int .i64 0) n i = ints (fillL F 0 n i) := by
  unfold fillL ints
  rw [List.map_map]
  apply List.map_congr_left
  intro v _
  by_cases hv : v < i
  · simp [hv]
  · simp [hv]
theorem own_kept' {w w' : World} {base K g : Nat} {e : TypeId} {xs : List Value} (h : w.ownsRow base e 1 (.slice (some ⟨g, 0, none⟩) K K) K xs) (hb : Below w.heap.size w w') : w'.ownsRow base e 1 (.slice (some ⟨g, 0, none⟩) K K) K xs :=
  fown_block h fun q hq => hb.block q (h.lt q hq).2
theorem ints_atD' {l : List Int} {k : Nat} (hk : k < l.length) : (ints l)[k]? = some (.int .i64 (l.getD k (-1))) := by rw [ints_at hk]; simp [List.getD, hk]
def BothRet (w : World) (s : Sd) (e : Ending) (w' : World) : Prop := ∃ N c1 O c2, e = .returned (sdVal s N c1 O c2) ∧ SdV w' (fun b => w.heap.size ≤ b ∧ b < w'.heap.size) s N c1 O c2 ∧ Below w.heap.size w w'
def MadeCut (W W3 : World) (cN cO : Array Value) (M gN gO gS : Nat) : Prop := W3.heap[gN]? = some (.cells cN 111 (0, 0)) ∧ W3.heap[gO]? = some (.cells cO 3 (0, 0)) ∧ W3.heap[gS]? = some (.cells #[.slice (some ⟨gN, 0, none⟩) M M, .slice (some ⟨gO, 0, none⟩) M M] 113 (0, 0)) ∧ (gN ≠ gO ∧ gN ≠ gS ∧ gO ≠ gS) ∧ W.heap.size ≤ gN ∧ W.heap.size ≤ gO ∧ W.heap.size ≤ gS ∧ Below W.heap.size W W3
theorem al3 (X : World) (a b c : Array Value) (s t u : TypeId) : (((X.alloc (.cells a s)).alloc (.cells b t)).alloc (.cells c u)).heap[X.heap.size]? = some (.cells a s (0, 0)) ∧ (((X.alloc (.cells a s)).alloc (.cells b t)).alloc (.cells c u)).heap[X.heap.size + 1]? = some (.cells b t (0, 0)) ∧
    (((X.alloc (.cells a s)).alloc (.cells b t)).alloc (.cells c u)).heap[X.heap.size + 1 + 1]? = some (.cells c u (0, 0)) ∧ Below X.heap.size X (((X.alloc (.cells a s)).alloc (.cells b t)).alloc (.cells c u)) := by
  have e1 := World.size_alloc X (.cells a s)
  have e2 := World.size_alloc (X.alloc (.cells a s)) (.cells b t)
  have h1 := heap_alloc_new (X.alloc (.cells a s)) (.cells b t)
  have h2 := heap_alloc_new ((X.alloc (.cells a s)).alloc (.cells b t)) (.cells c u)
  rw [e1] at h1
  rw [e2, e1] at h2
  refine ⟨(Below.heap_alloc _ _ _ (by omega)).trans ((Below.heap_alloc _ _ _ (by omega)).trans (heap_alloc_new X _)), (Below.heap_alloc _ _ _ (by omega)).trans h1, h2, (((Below.refl _ X).alloc (Nat.le_refl _) _).alloc (by omega) _).alloc (by omega) _⟩
theorem own_of_heap {W : World} {base g n : Nat} {e : TypeId} {cur : Array Value} (h : W.heap[g]? = some (.cells cur e (0, 0))) (hb : base ≤ g) (hn : cur.size = n) (hm : n ≤ maxLen) : W.ownsRow base e 1 (.slice (some ⟨g, 0, none⟩) n n) n cur.toList :=
  ⟨by simp [hn], .inr ⟨g, n, cur, rfl, hb, h, Nat.le_refl _, hm, by omega, by rw [Nat.mul_one]; exact List.take_of_length_le (by simp [hn])⟩⟩
theorem CsIsP.of_each {w : World} {S : Nat → Prop} {cs : Nat → Cl} {F : Nat → Value} : ∀ (M : Nat), (∀ v, v < M → CIsP w S (cs v) (F v)) → CsIsP w S ((List.range M).map cs) ((List.range M).map F)
  | 0, _ => by simp [CsIsP]
  | M + 1, h => by
    rw [List.range_succ, List.map_append, List.map_append]
    exact CsIsP.append (CsIsP.of_each M fun v hv => h v (by omega)) (CsIsP.cons (h M (by omega)) (CsIsP.nil _ _))
end Go.Proofs.YtnkelhmjkmeilaaGreatDoor.H
end
section
namespace Go.Proofs.YtnkelhmjkmeilaaGreatDoor.H
open Go.RowKit Go.Maps Go.WideMaps
attribute [local go_sem ↓] Go.wp_at_zero Go.wp_at_succ
theorem run_copy {P : Program} {w : World} (ty t : TypeId) (base : Nat) {e : TypeId} {size bytes : Nat} (R : Row P t e size bytes)
    (B : Nat) (Y : Option Addr) (m c1 : Nat) (ys : List Value) (hr : Rd w B size Y m ys) (h1 : ∀ u ∈ ys, u.oneCell' = true)
    (h63 : m ≤ maxLen) (hbytes : m * bytes ≤ 140737488355328) (hbase : base ≤ w.heap.size) :
    ∃ A' c' w', (Builtin.append_ #[t, t] ty #[.slice none 0 0, .slice Y m c1]).run P w = .ok (.slice A' m c') w' ∧ m ≤ c' ∧ w'.ownsRow base e size (.slice A' m c') m ys ∧ Below w.heap.size w w' ∧ (∀ q, (Value.slice A' m c').ownBlock = some q → w.heap.size ≤ q) := by
  obtain ⟨i, z, hi, hz, hsize, hby, hzs⟩ := R.ex
  rcases Y with _ | y
  · have hys : ys = [] := by
      rcases ys with _ | ⟨u, ys⟩
      · rfl
      · obtain ⟨a, e, _⟩ := hr.2 (by simp); cases e
    subst hys
    have hm : m = 0 := by
      have h0 := hr.1
      have hp := R.pos
      rw [List.length_nil] at h0
      rcases Nat.eq_zero_or_pos m with h' | h'
      · exact h'
      · have := Nat.mul_pos h' hp; omega
    subst hm
    have hrun : (Builtin.append_ #[t, t] ty #[.slice none 0 0, .slice none 0 c1]).run P w = .ok (.slice none 0 0) w := by
      simp [Builtin.append_, run_underlying R.und, sizeOf, typeInfo, hi, Builtin.lenOf, Builtin.firstCells]
    exact ⟨none, 0, w, hrun, Nat.le_refl _, World.ownsRow_nil _ _ _ _, Below.refl _ _, fun q hq => by simp [Value.ownBlock] at hq⟩
  · have hcell : ∀ j u, ys[j]? = some u → w.cell? (y.add j) = some u := fun j u hu => by
      obtain ⟨y', e, _, hc⟩ := hr.2 (by intro e; rw [e] at hu; simp at hu)
      injection e with e
      subst e
      exact hc j u hu
    obtain ⟨v', w', hrun, h2, h3, h4, h5⟩ := run_append_own_at (P := P) w base t ty e i z size bytes R.und hi hz hsize hby hzs R.pos (.slice none 0 0) 0 [] (World.ownsRow_nil _ _ _ _) y m c1 ys hr.1 hcell h1 (by omega) (by rw [Nat.zero_add]; exact hbytes) hbase
    rw [Nat.zero_add, List.nil_append] at h2
    obtain ⟨A', c', rfl, hc'⟩ := own_shape h2
    refine ⟨A', c', w', hrun, hc', h2, ⟨h3.os, h3.tape, h3.output, h3.size, fun k hk => h3.block k hk (by simp [Value.ownBlock])⟩, fun q hq => ?_⟩
    rcases h5 with h5 | h5
    · rw [h5] at hq; simp [Value.ownBlock] at hq
    · rw [h5] at hq
      injection hq with hq
      omega
theorem step_copy {P : Program} {w : World} {ops : Array Oper} {o : Oper} {a : Act} {Q : Exit → Act → World → Prop} {K : Act → World → Prop} {E : Prop} (hgd : o.guard = none) (s x : Operand) (t : TypeId) (ho : o.op = .call { callee := .builtin .append, args := #[s, x], argTypes := #[t, t] })
    (base : Nat) {e : TypeId} {size bytes : Nat} (R : Row P t e size bytes) (hs : a.eval s = .slice none 0 0)
    (B : Nat) (Y : Option Addr) (m c1 : Nat) (ys : List Value) (hx : a.eval x = .slice Y m c1) (hr : Rd w B size Y m ys) (h1 : ∀ u ∈ ys, u.oneCell' = true)
    (h63 : m ≤ maxLen) (hbytes : m * bytes ≤ 140737488355328) (hbase : base ≤ w.heap.size)
    (h : ∀ A' c' w', m ≤ c' → w'.ownsRow base e size (.slice A' m c') m ys → Below w.heap.size w w' → (∀ q, (Value.slice A' m c').ownBlock = some q → w.heap.size ≤ q) → K (a.put o.dst (.slice A' m c')) w') :
    if Region.wanted o (yielded ops a.tmps) = true then Oper.wp P o a w K Q else E := by
  have hw : Region.wanted o (yielded ops a.tmps) = true := by simp [Region.wanted, hgd]
  rw [if_pos hw]
  obtain ⟨A', c', w', hrun, h2, h3, h4, h5⟩ := run_copy (P := P) (w := w) o.type t base R B Y m c1 ys hr h1 h63 hbytes hbase
  unfold Oper.wp execOp
  simp only [ho, resolve, invoke, builtin, Sem.run_bind, Sem.run_pure, Result.andThen_ok, List.map_toArray, List.map_cons, List.map_nil, hs, hx, hrun]
  exact h A' c' w' h2 h3 h4 h5
theorem wpList_copy {P : Program} {w : World} {ops : Array Oper} {rest : List Oper} {o : Oper} {a : Act} {Q : Exit → Act → World → Prop} (hgd : o.guard = none) (s x : Operand) (t : TypeId) (ho : o.op = .call { callee := .builtin .append, args := #[s, x], argTypes := #[t, t] })
    (base : Nat) {e : TypeId} {size bytes : Nat} (R : Row P t e size bytes) (hs : a.eval s = .slice none 0 0)
    (B : Nat) (Y : Option Addr) (m c1 : Nat) (ys : List Value) (hx : a.eval x = .slice Y m c1) (hr : Rd w B size Y m ys) (h1 : ∀ u ∈ ys, u.oneCell' = true)
    (h63 : m ≤ maxLen) (hbytes : m * bytes ≤ 140737488355328) (hbase : base ≤ w.heap.size)
    (h : ∀ A' c' w', m ≤ c' → w'.ownsRow base e size (.slice A' m c') m ys → Below w.heap.size w w' → (∀ q, (Value.slice A' m c').ownBlock = some q → w.heap.size ≤ q) → wpList P ops Q rest (a.put o.dst (.slice A' m c')) w') :
    wpList P ops Q (o :: rest) a w := by
  refine wpList_plain hgd fun K hK => ?_
  obtain ⟨A', c', w', hrun, h2, h3, h4, h5⟩ := run_copy (P := P) (w := w) o.type t base R B Y m c1 ys hr h1 h63 hbytes hbase
  unfold Oper.wp execOp
  simp only [ho, resolve, invoke, builtin, Sem.run_bind, Sem.run_pure, Result.andThen_ok, List.map_toArray, List.map_cons, List.map_nil, hs, hx, hrun]
  exact hK _ _ (h A' c' w' h2 h3 h4 h5)
inductive LabB (n : Nat) : List Tr → Prop
  | nil : LabB n []
  | cons {t : Tr} {l : List Tr} : 0 ≤ t.lab → t.lab < n → LabB n t.kids → LabB n l → LabB n (t :: l)
theorem LabB.append {n : Nat} {l m : List Tr} (h : LabB n l) (h' : LabB n m) : LabB n (l ++ m) := by
  induction l with
  | nil => exact h'
  | cons t l ih => cases h with | cons a b c d => exact LabB.cons a b c (ih d)
theorem LabB.at_ {n : Nat} : ∀ {l : List Tr} {k : Nat} {x : Tr}, LabB n l → l[k]? = some x → 0 ≤ x.lab ∧ x.lab < n ∧ LabB n x.kids
  | [], k, x, _, hk => by simp at hk
  | t :: l, 0, x, h, hk => by simp at hk; subst hk; cases h with | cons a b c d => exact ⟨a, b, c⟩
  | t :: l, k + 1, x, h, hk => by cases h with | cons a b c d => exact LabB.at_ d (by simpa using hk)
theorem LabB.set {n : Nat} : ∀ {l : List Tr} {k : Nat} {x : Tr}, LabB n l → 0 ≤ x.lab → x.lab < n → LabB n x.kids → LabB n (l.set k x)
  | [], k, x, _, _, _, _ => LabB.nil
  | t :: l, 0, x, h, a, b, c => by cases h with | cons _ _ _ d => exact LabB.cons a b c d
  | t :: l, k + 1, x, h, a, b, c => by cases h with | cons a' b' c' d => exact LabB.cons a' b' c' (LabB.set d a b c)
end Go.Proofs.YtnkelhmjkmeilaaGreatDoor.H
end
section
namespace Go.Proofs.YtnkelhmjkmeilaaGreatDoor.H
open Go.RowKit Go.Maps Go.WideMaps
attribute [local go_sem ↓] Go.wp_at_zero Go.wp_at_succ
def IntB (x : Int) : Prop := -9223372036854775808 ≤ x ∧ x ≤ 9223372036854775807
def GA (base : Nat) (w : World) (vn vo : Value) : Nat → Prop := fun b => base ≤ b ∧ b < w.heap.size ∧ vn.ownBlock ≠ some b ∧ vo.ownBlock ≠ some b
def GS (w : World) (base : Nat) (N : Option Addr) (cN : Nat) (O : Option Addr) (cO : Nat) (nx : List (List Int)) (out : List Int) : Prop :=
  (∃ xs, w.ownsRow base 111 1 (.slice N nx.length cN) nx.length xs ∧ CsIsP w (GA base w (.slice N nx.length cN) (.slice O out.length cO)) (nx.map rowC) xs) ∧
    w.ownsRow base 3 1 (.slice O out.length cO) out.length (ints out) ∧ ∀ q, (Value.slice N nx.length cN).ownBlock = some q → (Value.slice O out.length cO).ownBlock ≠ some q
section
variable {w w' : World} {base cN cO : Nat} {N O : Option Addr} {nx : List (List Int)} {ot : List Int}
theorem GS.nil (w : World) (base : Nat) : GS w base none 0 none 0 [] [] := ⟨⟨[], ⟨rfl, .inl ⟨rfl, rfl⟩⟩, CsIsP.nil _ _⟩, ⟨rfl, .inl ⟨rfl, rfl⟩⟩, fun q hq => by cases hq⟩
theorem own_far {z n : Nat} {e : TypeId} {v : Value} {xs : List Value} (h : w.ownsRow base e z v n xs) (hk : ∀ q, base ≤ q → q < w.heap.size → w'.heap[q]? = w.heap[q]?) : w'.ownsRow base e z v n xs :=
  fown_block h fun q hq => hk q (h.lt q hq).1 (h.lt q hq).2
theorem GS.far (h : GS w base N cN O cO nx ot) (hs : w.heap.size ≤ w'.heap.size) (hk : ∀ q, base ≤ q → q < w.heap.size → w'.heap[q]? = w.heap[q]?) : GS w' base N cN O cO nx ot := by
  obtain ⟨⟨xs, h1, h2⟩, h3, h4⟩ := h
  exact ⟨⟨xs, own_far h1 hk, (h2.keep fun p hp => World.cell?_of_block (hk p.block hp.1 hp.2.1)).more fun b hb => ⟨hb.1, Nat.lt_of_lt_of_le hb.2.1 hs, hb.2.2⟩⟩, own_far h3 hk, h4⟩
theorem GS.below (h : GS w base N cN O cO nx ot) (hb : Below w.heap.size w w') : GS w' base N cN O cO nx ot := h.far hb.size fun q _ hq => hb.block q hq
theorem GS.row {w1 : World} {N' : Option Addr} {cN' : Nat} {xs : List Value} {r : List Int} {rv : Value} (h : GS w base N cN O cO nx ot) (hx : w.ownsRow base 111 1 (.slice N nx.length cN) nx.length xs) (hal : Below w.heap.size w w1) (ho : w'.ownsRow base 111 1 (.slice N' (nx.length + 1) cN') (nx.length + 1) (xs ++ [rv]))
    (hg : w1.grownBy w' (Value.slice N nx.length cN).ownBlock) (hat : ∀ q, (Value.slice N' (nx.length + 1) cN').ownBlock = some q → (Value.slice N nx.length cN).ownBlock = some q ∨ w.heap.size ≤ q)
    (hr : CIsP w (GA base w (.slice N nx.length cN) (.slice O ot.length cO)) (rowC r) rv) : GS w' base N' cN' O cO (nx ++ [r]) ot := by
  obtain ⟨⟨ys, h1, h2⟩, h3, h4⟩ := h
  obtain rfl := own_det hx h1
  have hsz : w.heap.size ≤ w'.heap.size := Nat.le_trans hal.size hg.size
  have hk : ∀ q, q < w.heap.size → (Value.slice N nx.length cN).ownBlock ≠ some q → w'.heap[q]? = w.heap[q]? := fun q hq hn => (hg.block q (Nat.lt_of_lt_of_le hq hal.size) (fun e => hn e.symm)).trans (hal.block q hq)
  have hll : (nx ++ [r]).length = nx.length + 1 := by simp
  refine ⟨⟨xs ++ [rv], by rw [hll]; exact ho, ?_⟩, fown_block h3 fun q hq => hk q (h3.lt q hq).2 fun e => h4 q e hq, fun q hq hq2 => ?_⟩
  · rw [hll, List.map_append]
    refine ((h2.append (CsIsP.cons hr (CsIsP.nil _ _))).keep fun p hp => World.cell?_of_block (hk p.block hp.2.1 hp.2.2.1)).more fun b hb => ⟨hb.1, Nat.lt_of_lt_of_le hb.2.1 hsz, fun e => ?_, hb.2.2.2⟩
    rcases hat b e with h5 | h5
    · exact hb.2.2.1 h5
    · have := hb.2.1; omega
  · rw [hll] at hq
    rcases hat q hq with h5 | h5
    · exact h4 q h5 hq2
    · have := (h3.lt q hq2).2; omega
theorem GS.out {w1 : World} {O' : Option Addr} {cO' : Nat} {x : Int} (h : GS w base N cN O cO nx ot) (hal : Below w.heap.size w w1) (ho : w'.ownsRow base 3 1 (.slice O' (ot.length + 1) cO') (ot.length + 1) (ints ot ++ [.int .i64 x]))
    (hg : w1.grownBy w' (Value.slice O ot.length cO).ownBlock) (hat : ∀ q, (Value.slice O' (ot.length + 1) cO').ownBlock = some q → (Value.slice O ot.length cO).ownBlock = some q ∨ w.heap.size ≤ q) : GS w' base N cN O' cO' nx (ot ++ [x]) := by
  obtain ⟨⟨xs, h1, h2⟩, h3, h4⟩ := h
  have hsz : w.heap.size ≤ w'.heap.size := Nat.le_trans hal.size hg.size
  have hk : ∀ q, q < w.heap.size → (Value.slice O ot.length cO).ownBlock ≠ some q → w'.heap[q]? = w.heap[q]? := fun q hq hn => (hg.block q (Nat.lt_of_lt_of_le hq hal.size) (fun e => hn e.symm)).trans (hal.block q hq)
  have hll : (ot ++ [x]).length = ot.length + 1 := by simp
  refine ⟨⟨xs, fown_block h1 fun q hq => hk q (h1.lt q hq).2 (h4 q hq), ?_⟩, ?_, fun q hq hq2 => ?_⟩
  · rw [hll]
    refine (h2.keep fun p hp => World.cell?_of_block (hk p.block hp.2.1 hp.2.2.2)).more fun b hb => ⟨hb.1, Nat.lt_of_lt_of_le hb.2.1 hsz, hb.2.2.1, fun e => ?_⟩
    rcases hat b e with h5 | h5
    · exact hb.2.2.2 h5
    · have := hb.2.1; omega
  · rw [hll]
    unfold ints at ho ⊢
    rw [List.map_append]
    exact ho
  · rw [hll] at hq2
    rcases hat q hq2 with h5 | h5
    · exact h4 q hq h5
    · have := (h1.lt q hq).2; omega
theorem GS.sd (h : GS w base N cN O cO nx ot) : SdV w (fun b => base ≤ b ∧ b < w.heap.size) ⟨nx, ot⟩ N cN O cO := by
  obtain ⟨⟨xs, h1, h2⟩, h3, h4⟩ := h
  exact ⟨⟨xs, RdP.of_own h1, h2.more fun b hb => ⟨hb.1, hb.2.1⟩⟩, own_cap h1, ⟨_, RdP.of_own h3, CsIsP.ints _ _ _⟩, own_cap h3⟩
end
end Go.Proofs.YtnkelhmjkmeilaaGreatDoor.H
end
