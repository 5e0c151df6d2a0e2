/- The reference's reach. -/
import Derived.Test.YtfiojodpcpkiaaaHR
import Derived.Test.YtfiojodpcpkiaaaHu
import Derived.Test.YtfiojodpcpkiaaaHt
namespace Go.Proofs.Ytfiojodpcpkiaaa
open Go.RowKit Go.Maps Go.WideMaps
attribute [local go_sem ↓] Go.wp_at_zero Go.wp_at_succ

theorem getD_at' {l : List Int} {v : Nat} (h : v < l.length) : l[v]? = some (l.getD v (-1)) := by simp [List.getD, h]
theorem ints_atD {l : List Int} {k : Nat} (hk : k < l.length) : (ints l)[k]? = some (.int .i64 (l.getD k (-1))) := by rw [ints_at hk, getD_el hk]
/-- nothing is found -/
abbrev f0 : FS := ⟨[], fun _ _ => none, [], [], fun _ => none⟩
theorem costL_f0 (n : Nat) : costL f0 n n = List.replicate n (-1) := by
  apply List.ext_getElem?
  intro i
  by_cases hi : i < n
  · simp [costL, costF, hi]
  · simp [costL, hi]
theorem own_slp {w : World} {base K g : Nat} {cs : List Int} (h : w.ownsRow base 3 1 (.slice (some ⟨g, 0, none⟩) K K) K (ints cs)) (hl : cs.length = K) : SlP w (fun b => b < w.heap.size) 1 (some ⟨g, 0, none⟩) cs.length (cs.map .i) := by
  rw [hl]
  exact ⟨_, (RdP.of_own h).more fun b hb => hb.2, CsIsP.ints _ _ _⟩
theorem own_kept {w w' : World} {base K g : Nat} {cs : List Int} (h : w.ownsRow base 3 1 (.slice (some ⟨g, 0, none⟩) K K) K (ints cs)) (hb : Below w.heap.size w w') : w'.ownsRow base 3 1 (.slice (some ⟨g, 0, none⟩) K K) K (ints cs) :=
  fown_block h fun q hq => hb.block q (h.lt q hq).2
/-- what reach tells, in memory -/
def ReachRet (s : Sd) (cs : List Int) (C : Int) (w : World) (e : Ending) (w' : World) : Prop := ∃ (g : Nat) (o : List Int), e = .returned (.slice (some ⟨g, 0, none⟩) s.out.length s.out.length) ∧ o.length = s.out.length ∧ w'.ownsRow w.heap.size 3 1 (.slice (some ⟨g, 0, none⟩) s.out.length s.out.length) s.out.length (ints o) ∧ ReachP s cs C o ∧ Below w.heap.size w w'
set_option maxHeartbeats 4000000 in
set_option maxRecDepth 100000 in
theorem reach_any {w : World} {s : Sd} {cs : List Int} {B Cq A : Option Addr} {c1 c2 cA K b : Nat} {C : Int} (H : SdV w (fun b => b < w.heap.size) s B c1 Cq c2) (hs : SdOk s K b) (HC : SlP w (fun b => b < w.heap.size) 1 A cs.length (cs.map .i)) (hK : cs.length = K)
    (hC : ∀ v, cs.getD v (-1) ≤ C) (hC0 : 0 ≤ C) (hC1 : C ≤ 1000) (hsz : s.out.length ≤ 4) (hK4 : K ≤ 400) :
    Calls Try.prog 33 #[sdVal s B c1 Cq c2, .slice A cs.length cA] w (ReachRet s cs C w) := by
  have hB0 := (Below.refl _ w).alloc (Nat.le_refl _) (.cells #[.slice B s.nx.length c1, .slice Cq s.out.length c2] 26)
  have hx0 := heap_alloc_new w (.cells #[.slice B s.nx.length c1, .slice Cq s.out.length c2] 26)
  have hsz0 : (w.alloc (.cells #[.slice B s.nx.length c1, .slice Cq s.out.length c2] 26)).heap.size = w.heap.size + 1 := World.size_alloc _ _
  go_enter Try.func33, Try.ntmps33
  go_upto_region 1 with fail
  generalize w.alloc (.cells #[.slice B s.nx.length c1, .slice Cq s.out.length c2] 26) = W1 at *
  obtain ⟨n, hn⟩ : ∃ n, n = s.out.length := ⟨_, rfl⟩
  have hnx : s.nx.length = n := by rw [hn]; exact hs.len
  rw [hnx] at hx0
  have x0 := Lib.cell_of_heap hx0 0
  simp only [List.getElem?_toArray, List.getElem?_cons_zero, List.getElem?_cons_succ] at x0
  have hwl := (Array.getElem?_eq_some_iff.1 hx0).1
  have HB0 := Lib.hid hB0
  have hsz1 := Nat.le_of_eq hsz0.symm
  have hsz2 := Nat.le_of_eq hsz0
  clear hsz0
  have HX0 := Lib.hid hx0
  have HV := Lib.hid (H.on hB0)
  have HCC := Lib.hid (Sl.on HC hB0)
  have HNX := Lib.hid (And.intro hn hnx)
  have hn0 : 0 < n := by rw [hn]; exact hs.pos
  have hn4 : n ≤ 4 := by omega
  have HS := Lib.hid hs
  have HK := Lib.hid hK
  have hcl : cs.length ≤ 400 := by omega
  clear hB0 hx0 H HC hnx hs hK hn
  obtain ⟨ind, hind, hzd, hsd, hbd⟩ := info_parts infoIn
  go_upto_region 2 with (at_make; go_must (refine wpList_make_full _ rfl _ _ 24 rfl w.heap.size 3 ind _ 1 Try.underlying24 hind hzd hsd .i64 .i64 _ _ n rfl rfl rfl rfl (by rw [hbd]; omega) (by unfold maxLen; omega) (by omega) ?_))
  intro W2 hown hg2
  rw [made_zero, costL_zero _ f0] at hown
  have hb2 := (Below.refl _ W1).grown hg2 (Nat.le_refl _) (fun q hq => by cases hq)
  have HB2 := Lib.hid hb2
  have HO2 := Lib.hid hown
  clear hown hg2 hb2
  obtain ⟨g, hg⟩ : ∃ g, g = W1.heap.size := ⟨_, rfl⟩
  have HG := Lib.hid hg
  rw [← hg] at HO2 ⊢
  clear hg
  go_wp2
  go_loopw [6] (fun iv wr => ∃ i : Nat, iv = .int .i64 i ∧ i ≤ n ∧ wr.ownsRow w.heap.size 3 1 (.slice (some ⟨g, 0, none⟩) n n) n (ints (costL f0 n i)) ∧ Below W1.heap.size W1 wr) (fun iv _ => n - (intOf iv).toNat)
  case atStart => exact ⟨0, rfl, Nat.zero_le _, HO2.out, HB2.out⟩
  case round =>
    obtain ⟨i, rfl, hi, hO1, hB1⟩ := hrel
    by_cases hlt : i < n
    · obtain ⟨cur1, o1, o2, o3, o4, o5, o6⟩ := own_open hO1
      have y0 := (Lib.cell_of_heap o1 i).trans (o6 i _ (ints_at (l := costL f0 n i) (by rw [costL_len]; exact hlt)))
      have fy0 := Lib.frozen_of_heap o1 i
      have hiI : (i : Int) < (n : Int) := by omega
      have hi0 : (0 : Int) ≤ (i : Int) := by omega
      have hB2 := hB1.setCell (p := ⟨g, i, none⟩) (by rw [HG.out]; exact Nat.le_refl _) (.int .i64 (-1))
      have hO2 := own_setz hO1 (i := i) (.int .i64 (-1))
      rw [ints_set, show (costL f0 n i).set i (-1) = costL f0 n (i + 1) from costL_set f0 hlt] at hO2
      have HB2 := Lib.hid hB2
      have HO2 := Lib.hid hO2
      clear o1 o2 o3 o4 o5 o6 hO1 hO2 hB2 hB1
      go_wp2
      go_roundw
      case rel => exact ⟨i + 1, by go_num, by omega, HO2.out, HB2.out⟩
      case measure => simp [intOf]; omega
    · obtain rfl : n = i := by omega
      rename World => W3
      rw [costL_f0] at hO1
      obtain ⟨cur1, o1, o2, o3, o4, o5, o6⟩ := own_open hO1
      have y0 := (Lib.cell_of_heap o1 0).trans (o6 0 _ (ints_atD (l := List.replicate n (-1)) (by simpa using hn0)))
      have fy0 := Lib.frozen_of_heap o1 0
      have hB2 := hB1.setCell (p := ⟨g, 0, none⟩) (by rw [HG.out]; exact Nat.le_refl _) (.int .i64 0)
      have hO2 := own_setz hO1 (i := 0) (.int .i64 0)
      rw [ints_set] at hO2
      have HB3 := Lib.hid hB2
      have HO3 := Lib.hid hO2
      have HRI := Lib.hid (RI.start (s := s) (cs := cs) (C := C) (n := n) HNX.out.1.symm hn0 hC0)
      have hnI : (0 : Int) < (n : Int) := by omega
      clear o1 o2 o3 o4 o5 o6 hO1 hO2 hB2 hB1
      go_upto_region 7 with fail
      generalize W3.setCell ⟨g, 0, none⟩ (.int .i64 0) = W4 at *
      clear y0 fy0
      generalize (List.replicate n (-1 : Int)).set 0 0 = o0 at *
      go_wp2
      go_loopg [7] (2 * potL 5000 o0 + 1) (fun gk mv wr => ∃ (more : Bool) (o : List Int), mv = .bool more ∧ gk = 2 * potL 5000 o + (if more then 1 else 0) ∧ Hid (RI s cs C o) ∧ Hid (more = false → ∀ i v, i < s.out.length → v < cs.length → RClo s cs o i v) ∧ wr.ownsRow w.heap.size 3 1 (.slice (some ⟨g, 0, none⟩) n n) n (ints o) ∧ Below W1.heap.size W1 wr)
      case atStart => exact ⟨true, o0, rfl, rfl, HRI, Lib.hid (fun h => by cases h), HO3.out, HB3.out⟩
      case round =>
        obtain ⟨more, o, rfl, rfl, hRI, hcl9, hO, hB⟩ := hrel
        rename World => W5
        cases more with
        | false =>
          have HRET := Lib.hid (show ReachRet s cs C w (.returned (.slice (some ⟨g, 0, none⟩) n n)) W5 from
            ⟨g, o, by rw [← HNX.out.1], hRI.out.len, by rw [← HNX.out.1]; exact hO, hRI.out.close hC0 (hcl9.out rfl), HB0.out.trans (hB.mono (by omega))⟩)
          clear hRI hcl9 hO hB
          go_wp2
          go_ret
          exact HRET.out
        | true =>
          have HO5 := Lib.hid hO
          have HB5 := Lib.hid hB
          clear hcl9 hO hB
          go_wp2
          go_loopw [8, 7] (fun iv mv wr => ∃ (i : Nat) (more : Bool) (o1 : List Int), iv = .int .i64 i ∧ mv = .bool more ∧ i ≤ n ∧ Hid (RI s cs C o1) ∧ Hid (potL 5000 o1 + (if more then 1 else 0) ≤ potL 5000 o ∧ (more = false → ∀ j u, j < i → u < cs.length → RClo s cs o1 j u)) ∧ wr.ownsRow w.heap.size 3 1 (.slice (some ⟨g, 0, none⟩) n n) n (ints o1) ∧ Below W1.heap.size W1 wr) (fun iv _ _ => n - (intOf iv).toNat)
          case atStart => exact ⟨0, false, o, rfl, rfl, Nat.zero_le _, hRI, Lib.hid ⟨by simp, fun _ j u hj => by omega⟩, HO5.out, HB5.out⟩
          case round =>
            obtain ⟨i, more, o1, rfl, rfl, hi1, hRI1, hP1, hO1, hB1⟩ := hrel
            obtain ⟨wo, rfl⟩ : ∃ wo : World, wo = wr := ⟨_, rfl⟩
            have HO1 := Lib.hid hO1
            have HB1 := Lib.hid hB1
            clear hO1 hB1
            by_cases hlt1 : i < n
            · have hiI : (i : Int) < (n : Int) := by omega
              have hi0 : (0 : Int) ≤ (i : Int) := by omega
              have hP1' := Lib.hid (show potL 5000 o1 + (if more then 1 else 0) ≤ potL 5000 o ∧ (more = false → (∀ j u, j < i → u < cs.length → RClo s cs o1 j u) ∧ ∀ u, u < 0 → RClo s cs o1 i u) from ⟨hP1.out.1, fun hm => ⟨hP1.out.2 hm, fun u hu => by omega⟩⟩)
              clear hP1
              go_wp2
              go_loopw [9, 7] (fun vv mv wr => ∃ (v : Nat) (more : Bool) (o2 : List Int), vv = .int .i64 v ∧ mv = .bool more ∧ v ≤ cs.length ∧ Hid (RI s cs C o2) ∧ Hid (potL 5000 o2 + (if more then 1 else 0) ≤ potL 5000 o ∧ (more = false → (∀ j u, j < i → u < cs.length → RClo s cs o2 j u) ∧ ∀ u, u < v → RClo s cs o2 i u)) ∧ wr.ownsRow w.heap.size 3 1 (.slice (some ⟨g, 0, none⟩) n n) n (ints o2) ∧ Below W1.heap.size W1 wr) (fun vv _ _ => cs.length - (intOf vv).toNat)
              case atStart => exact ⟨0, more, o1, rfl, rfl, Nat.zero_le _, hRI1, hP1', HO1.out, HB1.out⟩
              case round =>
                obtain ⟨v, more2, o2, rfl, rfl, hv, hRI2, hP2, hO2, hB2⟩ := hrel
                have HO2 := Lib.hid hO2
                have HB2 := Lib.hid hB2
                clear hO2 hB2
                by_cases hvl : v < cs.length
                · have hvI : (v : Int) < (cs.length : Int) := by omega
                  have hv0 : (0 : Int) ≤ (v : Int) := by omega
                  have hlo : n = o2.length := by rw [hRI2.out.len]; exact HNX.out.1
                  obtain ⟨cur1, q1, q2, q3, q4, q5, q6⟩ := own_open HO2.out
                  have y0 := (Lib.cell_of_heap q1 i).trans (q6 i _ (ints_atD (l := o2) (by omega)))
                  have HLO := Lib.hid hlo
                  by_cases hoi : 0 ≤ o2.getD i (-1)
                  · obtain ⟨r, r1, r2, r3, r4⟩ := HS.out.nxt (i := i) (v := v) (by rw [← HNX.out.1]; exact hlt1) (by rw [← HK.out]; exact hvl)
                    have hnn : s.nxt i v < n := by rw [HNX.out.1]; exact r4
                    obtain ⟨ar, R, rc, rfl, har, w0', hrc, hrow⟩ := (HV.out.on HB2.out).row_at r1
                    obtain ⟨ai, rfl, hai, w1'⟩ := ints_at' hrow r3
                    obtain ⟨ac, rfl, hac, w2'⟩ := ints_at' (Sl.on HCC.out HB2.out) (getD_at' (l := cs) hvl)
                    have x0' := (HB2.out.cell (p := ⟨w.heap.size, 0, none⟩) hwl).trans x0
                    have y1 := (Lib.cell_of_heap q1 (s.nxt i v)).trans (q6 _ _ (ints_atD (l := o2) (by omega)))
                    have fy1 := Lib.frozen_of_heap q1 (s.nxt i v)
                    have hvr : (v : Int) < (r.length : Int) := by rw [r2, ← HK.out]; exact hvI
                    have hnI2 : ((s.nxt i v : Nat) : Int) < (n : Int) := by omega
                    have hnI0 : (0 : Int) ≤ ((s.nxt i v : Nat) : Int) := by omega
                    have hcC := hC v
                    have hoC := hRI2.out.le hC0 i
                    have hoC2 := mulC_le hC0 hsz
                    have hoB : o2.getD i (-1) ≤ 4000 := by
                      have : C * ((4 : Nat) : Int) = 4 * C := Int.mul_comm _ _
                      omega
                    have HUP := Lib.hid (fun (h1 : 0 ≤ cs.getD v (-1)) (h2 : o2.getD (s.nxt i v) (-1) < 0 ∨ o2.getD i (-1) + cs.getD v (-1) < o2.getD (s.nxt i v) (-1)) => hRI2.out.upd (B := 5000) hC hvl hoi h1 r4 h2 (by
                      have : C * ((4 : Nat) : Int) = 4 * C := Int.mul_comm _ _
                      omega))
                    have HCL := Lib.hid (show (0 ≤ cs.getD v (-1) → 0 ≤ o2.getD (s.nxt i v) (-1) ∧ o2.getD (s.nxt i v) (-1) ≤ o2.getD i (-1) + cs.getD v (-1)) → RClo s cs o2 i v from fun h9 _ hc => h9 hc)
                    clear r1 r2 r3 r4 hrow q1 q2 q3 q4 q5 q6 hoC hoC2 hlo
                    generalize hnx9 : s.nxt i v = nn at *
                    generalize hoi9 : o2.getD i (-1) = oi at *
                    generalize hcv9 : cs.getD v (-1) = cv at *
                    generalize hon9 : o2.getD nn (-1) = on at *
                    clear hnx9 hoi9 hcv9 hon9
                    have hup : ∃ up : Bool, (up = true ∧ 0 ≤ cv ∧ (on < 0 ∨ oi + cv < on)) ∨ (up = false ∧ (0 ≤ cv → 0 ≤ on ∧ on ≤ oi + cv)) := by
                      by_cases h1 : 0 ≤ cv ∧ (on < 0 ∨ oi + cv < on)
                      · exact ⟨true, .inl ⟨rfl, h1⟩⟩
                      · exact ⟨false, .inr ⟨rfl, fun h2 => by omega⟩⟩
                    obtain ⟨up, hup⟩ := hup
                    have HU := Lib.hid hup
                    clear hup
                    go_upto_region 17 with fail
                    go_cut [81] (fun s81 wx => s81 = .bool up ∧ wx = wr.drew)
                    case first =>
                      by_cases h1 : 0 ≤ cv
                      · have gw : IntKind.i64.wrap (oi + cv) = oi + cv := IntWalk.i64_in _ (by omega)
                        by_cases h2 : on < 0
                        · obtain rfl : up = true := by
                            rcases HU.out with h | h
                            · exact h.1
                            · have := h.2 h1; omega
                          go_region
                          all_goals
                            go_wp2_with fail
                            go_meet
                            exact ⟨rfl, rfl⟩
                        · by_cases h3 : oi + cv < on
                          · obtain rfl : up = true := by
                              rcases HU.out with h | h
                              · exact h.1
                              · have := h.2 h1; omega
                            go_region
                            all_goals
                              go_wp2_with fail
                              go_meet
                              exact ⟨rfl, rfl⟩
                          · obtain rfl : up = false := by
                              rcases HU.out with h | h
                              · omega
                              · exact h.1
                            go_region
                            all_goals
                              go_wp2_with fail
                              go_meet
                              exact ⟨rfl, rfl⟩
                      · have h2 : cv < 0 := by omega
                        obtain rfl : up = false := by
                          rcases HU.out with h | h
                          · omega
                          · exact h.1
                        go_region
                        all_goals
                          go_wp2_with fail
                          go_meet
                          exact ⟨rfl, rfl⟩
                    case rest =>
                      obtain ⟨rfl, rfl⟩ := hcut
                      cases up with
                      | false =>
                        have HP3 := Lib.hid (show potL 5000 o2 + (if more2 then 1 else 0) ≤ potL 5000 o ∧ (more2 = false → (∀ j u, j < i → u < cs.length → RClo s cs o2 j u) ∧ ∀ u, u < v + 1 → RClo s cs o2 i u) from
                          ⟨hP2.out.1, fun hm => ⟨(hP2.out.2 hm).1, fun u hu => by
                            by_cases hu2 : u < v
                            · exact (hP2.out.2 hm).2 u hu2
                            · obtain rfl : u = v := by omega
                              exact HCL.out fun h9 => by
                                rcases HU.out with h | h
                                · cases h.1
                                · exact h.2 h9⟩⟩)
                        have HO3 := Lib.hid (own_kept HO2.out (Below.drew (Below.refl _ wr)))
                        have HB3 := Lib.hid (Below.drew HB2.out)
                        clear y0 y1 fy1 x0' w0' w1' w2' hP2
                        go_wp2
                        go_roundw
                        case rel => exact ⟨v + 1, more2, o2, by go_num, rfl, by omega, hRI2, HP3, HO3.out, HB3.out⟩
                        case measure => simp [intOf]; omega
                      | true =>
                        have hu := HU.out
                        have hup2 : 0 ≤ cv ∧ (on < 0 ∨ oi + cv < on) := by
                          rcases hu with h | h
                          · exact h.2
                          · cases h.1
                        have gw : IntKind.i64.wrap (oi + cv) = oi + cv := IntWalk.i64_in _ (by omega)
                        have hnew := HUP.out hup2.1 hup2.2
                        have HNEW := Lib.hid hnew
                        have HP3 := Lib.hid (show potL 5000 (o2.set nn (oi + cv)) + (if true then 1 else 0) ≤ potL 5000 o ∧ (true = false → (∀ j u, j < i → u < cs.length → RClo s cs (o2.set nn (oi + cv)) j u) ∧ ∀ u, u < v + 1 → RClo s cs (o2.set nn (oi + cv)) i u) from
                          ⟨by have h1 := hnew.2; have h2 := hP2.out.1; simp only [if_true]; omega, fun h => by cases h⟩)
                        have hO3 := own_setz (own_kept HO2.out (Below.drew (Below.drew (Below.refl _ wr)))) (i := nn) (.int .i64 (oi + cv))
                        rw [ints_set] at hO3
                        have HO3 := Lib.hid hO3
                        have HB3 := Lib.hid ((Below.drew (Below.drew HB2.out)).setCell (p := ⟨g, nn, none⟩) (by rw [HG.out]; exact Nat.le_refl _) (.int .i64 (oi + cv)))
                        clear hu hup2 hnew hO3 hP2
                        go_upto_region 18 with fail
                        go_region
                        all_goals
                          go_wp2
                          go_roundw
                          case rel => exact ⟨v + 1, true, o2.set nn (oi + cv), by go_num, rfl, by omega, Lib.hid HNEW.out.1, HP3, HO3.out, HB3.out⟩
                          case measure => simp [intOf]; omega
                  · have hoi2 : o2.getD i (-1) < 0 := by omega
                    have HP3 := Lib.hid (show potL 5000 o2 + (if more2 then 1 else 0) ≤ potL 5000 o ∧ (more2 = false → ∀ j u, j < i + 1 → u < cs.length → RClo s cs o2 j u) from
                      ⟨hP2.out.1, fun hm j u hj hu => by
                        by_cases hj2 : j < i
                        · exact (hP2.out.2 hm).1 j u hj2 hu
                        · obtain rfl : j = i := by omega
                          exact fun h9 => absurd h9 hoi⟩)
                    clear q1 q2 q3 q4 q5 q6 hlo hP2
                    generalize o2.getD i (-1) = oi at *
                    go_wp2
                    go_roundw
                    case rel => exact ⟨i + 1, more2, o2, by go_num, rfl, by omega, hRI2, HP3, HO2.out, HB2.out⟩
                    case measure => simp [intOf]; omega
                · obtain rfl : cs.length = v := by omega
                  have HP3 := Lib.hid (show potL 5000 o2 + (if more2 then 1 else 0) ≤ potL 5000 o ∧ (more2 = false → ∀ j u, j < i + 1 → u < cs.length → RClo s cs o2 j u) from
                    ⟨hP2.out.1, fun hm j u hj hu => by
                      by_cases hj2 : j < i
                      · exact (hP2.out.2 hm).1 j u hj2 hu
                      · obtain rfl : j = i := by omega
                        exact (hP2.out.2 hm).2 u hu⟩)
                  clear hP2
                  go_wp2
                  go_roundw
                  case rel => exact ⟨i + 1, more2, o2, by go_num, rfl, by omega, hRI2, HP3, HO2.out, HB2.out⟩
                  case measure => simp [intOf]; omega
            · obtain rfl : n = i := by omega
              have HP4 := Lib.hid (show 2 * potL 5000 o1 + (if more then 1 else 0) < 2 * potL 5000 o + 1 ∧ (more = false → ∀ j u, j < s.out.length → u < cs.length → RClo s cs o1 j u) from
                ⟨by have h1 := hP1.out.1; cases more <;> simp only [if_true, Bool.false_eq_true, if_false] at h1 ⊢ <;> omega, fun hm j u hj hu => hP1.out.2 hm j u (by rw [HNX.out.1]; exact hj) hu⟩)
              clear hP1
              go_wp2
              go_roundg (2 * potL 5000 o1 + (if more then 1 else 0))
              case measure => exact HP4.out.1
              case rel => exact ⟨more, o1, rfl, rfl, hRI1, Lib.hid HP4.out.2, HO1.out, HB1.out⟩
end Go.Proofs.Ytfiojodpcpkiaaa
