/- The reference's Costs. -/
import Derived.Test.YtfiojodpcpkiaaaHS
namespace Go.Proofs.Ytfiojodpcpkiaaa
open Go.RowKit Go.Maps Go.WideMaps
attribute [local go_sem ↓] Go.wp_at_zero Go.wp_at_succ

/-- what the reference's Costs tells, in memory -/
def RCostsRet (h : Hd) (w : World) (e : Ending) (w' : World) : Prop := ∃ (g K : Nat) (cs : List Int), e = .returned (.slice (some ⟨g, 0, none⟩) K K) ∧ h.K.toNat = K ∧ cs.length = K ∧ w'.ownsRow w.heap.size 3 1 (.slice (some ⟨g, 0, none⟩) K K) K (ints cs) ∧ CostR h cs ∧ Below w.heap.size w w'
set_option maxHeartbeats 4000000 in
set_option maxRecDepth 100000 in
theorem rCosts_any {w : World} {h : Hd} {A B C : Option Addr} {c c1 c2 : Nat} (H : HdV w (fun b => b < w.heap.size) h A c B c1 C c2) (hO : HdOk h 4) :
    Calls Try.prog 23 #[hdVal h A c B c1 C c2] w (RCostsRet h w) := by
  have hB0 := (Below.refl _ w).alloc (Nat.le_refl _) (.cells #[.int .i64 h.K, .slice A h.labs.length c, .slice B h.root.nx.length c1, .slice C h.root.out.length c2] 28)
  have hx0 := heap_alloc_new w (.cells #[.int .i64 h.K, .slice A h.labs.length c, .slice B h.root.nx.length c1, .slice C h.root.out.length c2] 28)
  have hsz0 : (w.alloc (.cells #[.int .i64 h.K, .slice A h.labs.length c, .slice B h.root.nx.length c1, .slice C h.root.out.length c2] 28)).heap.size = w.heap.size + 1 := World.size_alloc _ _
  have hLb := hO.fewL
  go_enter Try.func23, Try.ntmps23
  go_upto_region 1 with fail
  generalize w.alloc (.cells #[.int .i64 h.K, .slice A h.labs.length c, .slice B h.root.nx.length c1, .slice C h.root.out.length c2] 28) = W1 at *
  obtain ⟨K, hK⟩ : ∃ K : Nat, h.K = (K : Int) := ⟨h.K.toNat, (Int.toNat_of_nonneg (by have := hO.K1; omega)).symm⟩
  have hKt : h.K.toNat = K := by rw [hK]; exact Int.toNat_natCast K
  have hK4 : K ≤ 4 := by have := hO.fewK; omega
  have hK1 : 1 ≤ K := by have := hO.K1; omega
  rw [hK] at hx0
  have x0 := Lib.cell_of_heap hx0 0
  simp only [List.getElem?_toArray, List.getElem?_cons_zero, List.getElem?_cons_succ] at x0
  have hwl := (Array.getElem?_eq_some_iff.1 hx0).1
  have HB0 := Lib.hid hB0
  have hsz1 := Nat.le_of_eq hsz0.symm
  have hsz2 := Nat.le_of_eq hsz0
  clear hsz0
  have HX0 := Lib.hid hx0
  have HV := Lib.hid (H.on hB0)
  have HKK := Lib.hid (And.intro hK hKt)
  clear hB0 hx0 H hKt
  clear hK
  obtain ⟨ind, hind, hzd, hsd, hbd⟩ := info_parts infoIn
  go_upto_region 2 with (at_make; go_must (refine wpList_make_full _ rfl _ _ 24 rfl w.heap.size 3 ind _ 1 Try.underlying24 hind hzd hsd .i64 .i64 _ _ K rfl rfl rfl rfl (by rw [hbd]; omega) (by unfold maxLen; omega) (by omega) ?_))
  intro W2 hown hg2
  rw [made_zero, costL_zero _ f0] at hown
  have hb2 := (Below.refl _ W1).grown hg2 (Nat.le_refl _) (fun q hq => by cases hq)
  have HB2 := Lib.hid hb2
  have HO2 := Lib.hid hown
  clear hown hg2 hb2
  obtain ⟨g, hg⟩ : ∃ g, g = W1.heap.size := ⟨_, rfl⟩
  have HG := Lib.hid hg
  rw [← hg] at HO2 ⊢
  clear hg
  go_wp2
  go_loopw [4] (fun iv wr => ∃ i : Nat, iv = .int .i64 i ∧ i ≤ K ∧ wr.ownsRow w.heap.size 3 1 (.slice (some ⟨g, 0, none⟩) K K) K (ints (costL f0 K i)) ∧ Below W1.heap.size W1 wr) (fun iv _ => K - (intOf iv).toNat)
  case atStart => exact ⟨0, rfl, Nat.zero_le _, HO2.out, HB2.out⟩
  case round =>
    obtain ⟨i, rfl, hi, hO1, hB1⟩ := hrel
    by_cases hlt : i < K
    · obtain ⟨cur1, o1, o2, o3, o4, o5, o6⟩ := own_open hO1
      have y0 := (Lib.cell_of_heap o1 i).trans (o6 i _ (ints_at (l := costL f0 K i) (by rw [costL_len]; exact hlt)))
      have fy0 := Lib.frozen_of_heap o1 i
      have hiI : (i : Int) < (K : Int) := by omega
      have hi0 : (0 : Int) ≤ (i : Int) := by omega
      have hB2 := hB1.setCell (p := ⟨g, i, none⟩) (by rw [HG.out]; exact Nat.le_refl _) (.int .i64 (-1))
      have hO2 := own_setz hO1 (i := i) (.int .i64 (-1))
      rw [ints_set, show (costL f0 K i).set i (-1) = costL f0 K (i + 1) from costL_set f0 hlt] at hO2
      have HB2 := Lib.hid hB2
      have HO2 := Lib.hid hO2
      clear o1 o2 o3 o4 o5 o6 hO1 hO2 hB2 hB1
      go_wp2
      go_roundw
      case rel => exact ⟨i + 1, by go_num, by omega, HO2.out, HB2.out⟩
      case measure => simp [intOf]; omega
    · obtain rfl : K = i := by omega
      rename World => W3
      rw [costL_f0] at hO1
      have HO3 := Lib.hid hO1
      have HB3 := Lib.hid hB1
      have HCI := Lib.hid (CI.start HKK.out.2)
      clear hO1 hB1
      generalize List.replicate K (-1 : Int) = cs0 at *
      go_wp2
      go_loopg [5] (2 * potL 5000 cs0 + 1) (fun gk mv wr => ∃ (more : Bool) (cs : List Int), mv = .bool more ∧ gk = 2 * potL 5000 cs + (if more then 1 else 0) ∧ Hid (CI h cs) ∧ Hid (more = false → ∀ j, j < h.labs.length → CClo h cs j) ∧ wr.ownsRow w.heap.size 3 1 (.slice (some ⟨g, 0, none⟩) K K) K (ints cs) ∧ Below W1.heap.size W1 wr)
      case atStart => exact ⟨true, cs0, rfl, rfl, HCI, Lib.hid (fun h => by cases h), HO3.out, HB3.out⟩
      case round =>
        obtain ⟨more, cs1, rfl, rfl, hCI, hcl9, hO, hB⟩ := hrel
        rename World => W5
        cases more with
        | false =>
          have HRET := Lib.hid (show RCostsRet h w (.returned (.slice (some ⟨g, 0, none⟩) K K)) W5 from
            ⟨g, K, cs1, rfl, HKK.out.2, by rw [hCI.out.len]; exact HKK.out.2, hO, hCI.out.close (hcl9.out rfl), HB0.out.trans (hB.mono (by omega))⟩)
          clear hCI hcl9 hO hB
          go_wp2
          go_ret
          exact HRET.out
        | true =>
          have HO5 := Lib.hid hO
          have HB5 := Lib.hid hB
          clear hcl9 hO hB
          go_wp2
          go_loopw [6, 5] (fun iv mv wr => ∃ (i : Nat) (more : Bool) (cs2 : List Int), iv = .int .i64 i ∧ mv = .bool more ∧ i ≤ h.labs.length ∧ Hid (CI h cs2) ∧ Hid (potL 5000 cs2 + (if more then 1 else 0) ≤ potL 5000 cs1 ∧ (more = false → ∀ j, j < i → CClo h cs2 j)) ∧ wr.ownsRow w.heap.size 3 1 (.slice (some ⟨g, 0, none⟩) K K) K (ints cs2) ∧ Below W1.heap.size W1 wr) (fun iv _ _ => h.labs.length - (intOf iv).toNat)
          case atStart => exact ⟨0, false, cs1, rfl, rfl, Nat.zero_le _, hCI, Lib.hid ⟨by simp, fun _ j hj => by omega⟩, HO5.out, HB5.out⟩
          case round =>
            obtain ⟨i, more, cs2, rfl, rfl, hi1, hCI2, hP2, hO2, hB2⟩ := hrel
            obtain ⟨wo, rfl⟩ : ∃ wo : World, wo = wr := ⟨_, rfl⟩
            have HO2 := Lib.hid hO2
            have HB2 := Lib.hid hB2
            have hx2 := (hB2.block _ hwl).trans HX0.out
            have z1 := Lib.cell_of_heap hx2 1
            simp only [List.getElem?_toArray, List.getElem?_cons_zero, List.getElem?_cons_succ] at z1
            clear hO2 hB2 hx2
            by_cases hlt1 : i < h.labs.length
            · have hiI : (i : Int) < (h.labs.length : Int) := by omega
              have hi0 : (0 : Int) ≤ (i : Int) := by omega
              have hVo := HV.out.on HB2.out
              obtain ⟨a, B', c1', C', c2', hAa, hab, k0, k1, hsd⟩ := labs_at hVo.labs (Hd.side_lt hlt1)
              have HAa := Lib.hid hAa
              rw [hAa] at z1
              have hside := (hO.sideOk i).1
              rw [if_pos hlt1, HKK.out.2] at hside
              have hsz4 := (hO.sideOk i).2
              have hcl2 : cs2.length = K := by rw [hCI2.out.len]; exact HKK.out.2
              have hset := setN_le cs2
              have hTT := TT_40 (m := setN cs2) (by omega)
              have hTN := TT_nonneg (setN cs2)
              have hsl := own_slp HO2.out hcl2
              have hreach := reach_any hsd hside (cA := K) hsl hcl2 hCI2.out.bnd hTN (by omega) hsz4 (by omega)
              rw [hcl2] at hreach
              have HREACH := Lib.hid hreach
              have HSI := Lib.hid hside
              have HUP := Lib.hid (fun (cs3 o : List Int) (k : Nat) (h1 : CI h cs3) (h2 : setN cs2 ≤ setN cs3) (h3 : ReachP (h.side i) cs2 (TT (setN cs2)) o) (h4 : 0 ≤ o.getD k (-1)) (h5 : (h.side i).tell k < cs3.length) (h6 : cs3.getD ((h.side i).tell k) (-1) < 0 ∨ o.getD k (-1) + 1 < cs3.getD ((h.side i).tell k) (-1)) =>
                CI.upd (B := 5000) h1 hCI2.out h2 hlt1 h3 hsz4 h4 h5 h6 (by omega))
              have HCLO := Lib.hid (fun (cs3 : List Int) (h9 : ∀ k n, Rch (h.side i) cs3 k n → 0 ≤ cs3.getD ((h.side i).tell k) (-1) ∧ cs3.getD ((h.side i).tell k) (-1) ≤ n + 1) => show CClo h cs3 i from h9)
              have HSIDE := Lib.hid (Hd.side_lt hlt1)
              have HTT := Lib.hid (And.intro hTT hTN)
              clear hVo hAa hside hsl hreach hcl2 hset hsd hTT hTN
              generalize h.side i = sd at *
              go_wp2_with fail
              refine HREACH.out.mono ?_
              rintro e W7 ⟨go, o, rfl, hol, hoo, hrp, hb7⟩
              have HO7 := Lib.hid (own_kept HO2.out hb7)
              have HB7 := Lib.hid (HB2.out.trans (hb7.mono HB2.out.size))
              have HOO := Lib.hid hoo
              have HRP := Lib.hid hrp
              have HOL := Lib.hid hol
              have hgog : go ≠ g := by
                obtain ⟨_, _, _, _, _, h5, _⟩ := own_open hoo
                have := (HO2.out.lt g rfl).2
                omega
              have HGG := Lib.hid hgog
              have HP7 := Lib.hid (show setN cs2 ≤ setN cs2 ∧ potL 5000 cs2 + (if more then 1 else 0) ≤ potL 5000 cs1 ∧ (more = false → cs2 = cs2 ∧ (∀ j, j < i → CClo h cs2 j) ∧ ∀ k', k' < 0 → 0 ≤ o.getD k' (-1) → 0 ≤ cs2.getD (sd.tell k') (-1) ∧ cs2.getD (sd.tell k') (-1) ≤ o.getD k' (-1) + 1) from
                ⟨Nat.le_refl _, hP2.out.1, fun hm => ⟨rfl, hP2.out.2 hm, fun k' hk => by omega⟩⟩)
              clear hoo hrp hol hb7 k0 k1 z1 hgog hP2 HREACH
              go_wp2
              go_loopw [8, 5] (fun kv mv wr => ∃ (k : Nat) (more3 : Bool) (cs3 : List Int), kv = .int .i64 k ∧ mv = .bool more3 ∧ k ≤ sd.out.length ∧ Hid (CI h cs3) ∧ Hid (setN cs2 ≤ setN cs3 ∧ potL 5000 cs3 + (if more3 then 1 else 0) ≤ potL 5000 cs1 ∧ (more3 = false → cs3 = cs2 ∧ (∀ j, j < i → CClo h cs3 j) ∧ ∀ k', k' < k → 0 ≤ o.getD k' (-1) → 0 ≤ cs3.getD (sd.tell k') (-1) ∧ cs3.getD (sd.tell k') (-1) ≤ o.getD k' (-1) + 1)) ∧
                wr.ownsRow w.heap.size 3 1 (.slice (some ⟨g, 0, none⟩) K K) K (ints cs3) ∧ wr.ownsRow wo.heap.size 3 1 (.slice (some ⟨go, 0, none⟩) sd.out.length sd.out.length) sd.out.length (ints o) ∧ Below W1.heap.size W1 wr) (fun kv _ _ => sd.out.length - (intOf kv).toNat)
              case atStart => exact ⟨0, more, cs2, rfl, rfl, Nat.zero_le _, hCI2, Lib.hid ⟨HP7.out.1, HP7.out.2.1, fun hm => ⟨rfl, (HP7.out.2.2 hm).2⟩⟩, HO7.out, HOO.out, HB7.out⟩
              case round =>
                obtain ⟨k, more3, cs3, rfl, rfl, hk1, hCI3, hP3, hO3, hOO3, hB3⟩ := hrel
                have HO3 := Lib.hid hO3
                have HOO3 := Lib.hid hOO3
                have HB3 := Lib.hid hB3
                clear hO3 hOO3 hB3
                by_cases hlt2 : k < sd.out.length
                · have hkI : (k : Int) < (sd.out.length : Int) := by omega
                  have hk0 : (0 : Int) ≤ (k : Int) := by omega
                  have hx3 := (HB3.out.block _ hwl).trans HX0.out
                  have z1 := Lib.cell_of_heap hx3 1
                  simp only [List.getElem?_toArray, List.getElem?_cons_zero, List.getElem?_cons_succ] at z1
                  rw [HAa.out] at z1
                  obtain ⟨a', B2, c12, C2, c22, hAa2, hab2, k0, k1, hsd⟩ := labs_at (HV.out.on HB3.out).labs HSIDE.out
                  obtain rfl : a = a' := by
                    have := HAa.out.symm.trans hAa2
                    injection this
                  obtain ⟨t1, t2⟩ := HSI.out.tell hlt2
                  obtain ⟨ao, rfl, hao, w1'⟩ := ints_at' hsd.out t1
                  have hcl3 : cs3.length = K := by rw [hCI3.out.len]; exact HKK.out.2
                  have hol := HOL.out
                  obtain ⟨cur1, q1, q2, q3, q4, q5, q6⟩ := own_open HOO3.out
                  have y0 := (Lib.cell_of_heap q1 k).trans (q6 k _ (ints_atD (l := o) (by omega)))
                  obtain ⟨cur2, p1, p2, p3, p4, p5, p6⟩ := own_open HO3.out
                  have y1 := (Lib.cell_of_heap p1 (sd.tell k)).trans (p6 _ _ (ints_atD (l := cs3) (by omega)))
                  have fy1 := Lib.frozen_of_heap p1 (sd.tell k)
                  have hvI : ((sd.tell k : Nat) : Int) < (K : Int) := by omega
                  have hv0 : (0 : Int) ≤ ((sd.tell k : Nat) : Int) := by omega
                  have hob := HRP.out.bnd k
                  have hob2 := mulC_le HTT.out.2 hsz4
                  have hob3 : o.getD k (-1) ≤ 4000 := by
                    have h8 : TT (setN cs2) * ((4 : Nat) : Int) = 4 * TT (setN cs2) := Int.mul_comm _ _
                    have h9 := HTT.out
                    omega
                  have HUP3 := Lib.hid (fun (h4 : 0 ≤ o.getD k (-1)) (h6 : cs3.getD (sd.tell k) (-1) < 0 ∨ o.getD k (-1) + 1 < cs3.getD (sd.tell k) (-1)) => HUP.out cs3 o k hCI3.out hP3.out.1 HRP.out h4 (by omega) h6)
                  have HCL := Lib.hid (show (0 ≤ o.getD k (-1) → 0 ≤ cs3.getD (sd.tell k) (-1) ∧ cs3.getD (sd.tell k) (-1) ≤ o.getD k (-1) + 1) → ∀ k', k' = k → 0 ≤ o.getD k' (-1) → 0 ≤ cs3.getD (sd.tell k') (-1) ∧ cs3.getD (sd.tell k') (-1) ≤ o.getD k' (-1) + 1 from fun h8 k' hk' => by rw [hk']; exact h8)
                  clear t1 hsd k0 hAa2 hob hob2 hol q1 q2 q3 q4 q5 q6 p1 p2 p3 p4 p5 p6 hcl3
                  generalize ht9 : sd.tell k = vv at *
                  generalize ho9 : o.getD k (-1) = ok at *
                  generalize hc9 : cs3.getD vv (-1) = cv at *
                  clear ht9 ho9 hc9
                  have hup : ∃ up : Bool, (up = true ∧ 0 ≤ ok ∧ (cv < 0 ∨ ok + 1 < cv)) ∨ (up = false ∧ (0 ≤ ok → 0 ≤ cv ∧ cv ≤ ok + 1)) := by
                    by_cases h1 : 0 ≤ ok ∧ (cv < 0 ∨ ok + 1 < cv)
                    · exact ⟨true, .inl ⟨rfl, h1⟩⟩
                    · exact ⟨false, .inr ⟨rfl, fun h2 => by omega⟩⟩
                  obtain ⟨up, hup⟩ := hup
                  have HU := Lib.hid hup
                  clear hup
                  go_upto_region 17 with fail
                  go_cut [75] (fun s81 wx => s81 = .bool up ∧ wx = wr.drew)
                  case first =>
                    by_cases h1 : 0 ≤ ok
                    · have gw : IntKind.i64.wrap (ok + 1) = ok + 1 := IntWalk.i64_in _ (by omega)
                      by_cases h2 : cv < 0
                      · obtain rfl : up = true := by
                          rcases HU.out with h | h
                          · exact h.1
                          · have := h.2 h1; omega
                        go_region
                        all_goals
                          go_wp2_with fail
                          go_meet
                          exact ⟨rfl, rfl⟩
                      · by_cases h3 : ok + 1 < cv
                        · obtain rfl : up = true := by
                            rcases HU.out with h | h
                            · exact h.1
                            · have := h.2 h1; omega
                          go_region
                          all_goals
                            go_wp2_with fail
                            go_meet
                            exact ⟨rfl, rfl⟩
                        · obtain rfl : up = false := by
                            rcases HU.out with h | h
                            · omega
                            · exact h.1
                          go_region
                          all_goals
                            go_wp2_with fail
                            go_meet
                            exact ⟨rfl, rfl⟩
                    · have h2 : ok < 0 := by omega
                      obtain rfl : up = false := by
                        rcases HU.out with h | h
                        · omega
                        · exact h.1
                      go_region
                      all_goals
                        go_wp2_with fail
                        go_meet
                        exact ⟨rfl, rfl⟩
                  case rest =>
                    obtain ⟨rfl, rfl⟩ := hcut
                    cases up with
                    | false =>
                      have HP4 := Lib.hid (show setN cs2 ≤ setN cs3 ∧ potL 5000 cs3 + (if more3 then 1 else 0) ≤ potL 5000 cs1 ∧ (more3 = false → cs3 = cs2 ∧ (∀ j, j < i → CClo h cs3 j) ∧ ∀ k', k' < k + 1 → 0 ≤ o.getD k' (-1) → 0 ≤ cs3.getD (sd.tell k') (-1) ∧ cs3.getD (sd.tell k') (-1) ≤ o.getD k' (-1) + 1) from
                        ⟨hP3.out.1, hP3.out.2.1, fun hm => ⟨(hP3.out.2.2 hm).1, (hP3.out.2.2 hm).2.1, fun k' hk' => by
                          by_cases hk2 : k' < k
                          · exact (hP3.out.2.2 hm).2.2 k' hk2
                          · exact HCL.out (fun h9 => by
                              rcases HU.out with h | h
                              · cases h.1
                              · exact h.2 h9) k' (by omega)⟩⟩)
                      have HO4 := Lib.hid (own_kept HO3.out (Below.drew (Below.refl _ wr)))
                      have HOO4 := Lib.hid (own_kept HOO3.out (Below.drew (Below.refl _ wr)))
                      have HB4 := Lib.hid (Below.drew HB3.out)
                      clear y0 y1 fy1 z1 k1 w1' hP3
                      go_wp2
                      go_roundw
                      case rel => exact ⟨k + 1, more3, cs3, by go_num, rfl, by omega, hCI3, HP4, HO4.out, HOO4.out, HB4.out⟩
                      case measure => simp [intOf]; omega
                    | true =>
                      have hup2 : 0 ≤ ok ∧ (cv < 0 ∨ ok + 1 < cv) := by
                        rcases HU.out with h | h
                        · exact h.2
                        · cases h.1
                      have gw : IntKind.i64.wrap (ok + 1) = ok + 1 := IntWalk.i64_in _ (by omega)
                      have hnew := HUP3.out hup2.1 hup2.2
                      have HNEW := Lib.hid hnew
                      have HP4 := Lib.hid (show setN cs2 ≤ setN (cs3.set vv (ok + 1)) ∧ potL 5000 (cs3.set vv (ok + 1)) + (if true then 1 else 0) ≤ potL 5000 cs1 ∧ (true = false → cs3.set vv (ok + 1) = cs2 ∧ (∀ j, j < i → CClo h (cs3.set vv (ok + 1)) j) ∧ ∀ k', k' < k + 1 → 0 ≤ o.getD k' (-1) → 0 ≤ (cs3.set vv (ok + 1)).getD (sd.tell k') (-1) ∧ (cs3.set vv (ok + 1)).getD (sd.tell k') (-1) ≤ o.getD k' (-1) + 1) from
                        ⟨hnew.2.2, by have h1 := hnew.2.1; have h2 := hP3.out.2.1; simp only [if_true]; omega, fun h => by cases h⟩)
                      have hO4 := own_setz (own_kept HO3.out (Below.drew (Below.refl _ wr))) (i := vv) (.int .i64 (ok + 1))
                      rw [ints_set] at hO4
                      have HO4 := Lib.hid hO4
                      have HOO4 := Lib.hid (ownsRow_setCell_other (own_kept HOO3.out (Below.drew (Below.refl _ wr))) (a := ⟨g, vv, none⟩) (fun e => HGG.out (by injection e)) (.int .i64 (ok + 1)))
                      have HB4 := Lib.hid ((Below.drew HB3.out).setCell (p := ⟨g, vv, none⟩) (by rw [HG.out]; exact Nat.le_refl _) (.int .i64 (ok + 1)))
                      clear hup2 hnew hO4 hP3
                      go_wp2
                      go_roundw
                      case rel => exact ⟨k + 1, true, cs3.set vv (ok + 1), by go_num, rfl, by omega, Lib.hid HNEW.out.1, HP4, HO4.out, HOO4.out, HB4.out⟩
                      case measure => simp [intOf]; omega
                · obtain rfl : sd.out.length = k := by omega
                  have HP4 := Lib.hid (show potL 5000 cs3 + (if more3 then 1 else 0) ≤ potL 5000 cs1 ∧ (more3 = false → ∀ j, j < i + 1 → CClo h cs3 j) from
                    ⟨hP3.out.2.1, fun hm j hj => by
                      obtain ⟨e1, e2, e3⟩ := hP3.out.2.2 hm
                      by_cases hj2 : j < i
                      · exact e2 j hj2
                      · obtain rfl : j = i := by omega
                        refine HCLO.out cs3 fun kk nn hr => ?_
                        rw [e1] at hr
                        have h5 := HRP.out.cmp kk nn hr
                        have h6 := getD_in h5.1
                        rw [HOL.out] at h6
                        have h7 := e3 kk h6 h5.1
                        omega⟩)
                  clear hP3
                  go_wp2
                  go_roundw
                  case rel => exact ⟨i + 1, more3, cs3, by go_num, rfl, by omega, hCI3, HP4, HO3.out, HB3.out⟩
                  case measure => simp [intOf]; omega
            · obtain rfl : h.labs.length = i := by omega
              have HP4 := Lib.hid (show 2 * potL 5000 cs2 + (if more then 1 else 0) < 2 * potL 5000 cs1 + 1 ∧ (more = false → ∀ j, j < h.labs.length → CClo h cs2 j) from
                ⟨by have h1 := hP2.out.1; cases more <;> simp only [if_true, Bool.false_eq_true, if_false] at h1 ⊢ <;> omega, fun hm j hj => hP2.out.2 hm j hj⟩)
              clear hP2
              go_wp2
              go_roundg (2 * potL 5000 cs2 + (if more then 1 else 0))
              case measure => exact HP4.out.1
              case rel => exact ⟨more, cs2, rfl, rfl, hCI2, Lib.hid HP4.out.2, HO2.out, HB2.out⟩
end Go.Proofs.Ytfiojodpcpkiaaa
