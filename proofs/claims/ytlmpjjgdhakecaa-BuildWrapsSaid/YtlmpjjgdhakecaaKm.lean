/- BuildWraps: the law walked. -/
import Derived.Test.YtlmpjjgdhakecaaKl
import Derived.Test.YtlmpjjgdhakecaaKj
namespace Go.Proofs.Ytlmpjjgdhakecaa
open Go.RowKit Go.Maps Go.WideMaps
attribute [local go_sem ↓] Go.wp_at_zero Go.wp_at_succ

def notZ (t : Tk) : Bool := !(t.name == zzN)
def ownT (l : List Tk) : List Tk := (l.take 30).filter notZ
theorem ownT_no (l : List Tk) : ∀ t ∈ ownT l, t.name ≠ zzN := by
  intro t ht
  have := (List.mem_filter.1 ht).2
  simpa [notZ] using this
theorem filt_next {l : List Tk} {k : Nat} (hk : k < l.length) : (l.take (k + 1)).filter notZ = (l.take k).filter notZ ++ (if notZ l[k] then [l[k]] else []) := by
  rw [List.take_succ_eq_append_getElem hk, List.filter_append]
  congr 1
  simp only [List.filter_cons, List.filter_nil]

set_option maxHeartbeats 4000000 in
set_option maxRecDepth 100000 in
theorem BuildWraps_calls {W : World} {A : Option Addr} {c : Nat} {l : List Tk} (hT : Toks W W.heap.size A l.length l) (hc : l.length ≤ c) (hk : ∀ t ∈ l, KindOk t.kind) :
    Calls Try.prog 5 #[.slice A l.length c] W fun e W' => e = .returned (.bool true) ∧ Below W.heap.size W W' := by
  have hok := cut7_ok hk
  have hlen := cut7_length l
  go_enter Try.func5, Try.ntmps5
  go_wp2_with fail
  refine (Cut7_any hT hc).mono ?_
  rintro e W1 ⟨A1, c1, rfl, h1, hP, b1⟩
  have hT1 : Toks W1 W1.heap.size A1 (cut7 l).length (cut7 l) := hP.lt fun q hq => hq.2
  generalize cut7 l = l7 at *
  clear hT hc hk hP
  go_wp2_with fail
  go_loopw [3, 5] (fun v iv wr => ∃ (k : Nat) (D : List Tk) (xs : List Value) (A2 : Option Addr) (c2 : Nat), v = .slice A2 D.length c2 ∧ iv = .int .i64 k ∧ k ≤ l7.length ∧ k ≤ 30 ∧ Hid (D = (l7.take k).filter notZ) ∧ D.length ≤ k ∧ D.length ≤ c2 ∧
      wr.ownsRow W1.heap.size 29 4 (.slice A2 D.length c2) D.length xs ∧ TsIs wr (fun b => b < W1.heap.size) D xs ∧ Below W1.heap.size W1 wr) (fun _ iv _ => l7.length - (intOf iv).toNat)
  case atStart => exact ⟨0, [], [], none, 0, rfl, rfl, Nat.zero_le _, Nat.zero_le _, rfl, Nat.le_refl _, Nat.le_refl _, World.ownsRow_nil _ _ _ _, TsIs.nil _ _, Below.refl _ _⟩
  case round =>
    obtain ⟨k, D, xs, A2, c2, rfl, rfl, hk, hk30, hD, hDk, hDc, hown, hts, hw⟩ := hrel
    by_cases hlt : k < l7.length ∧ k < 30
    · obtain ⟨hlt, hlt2⟩ := hlt
      obtain ⟨a, rfl, hta⟩ := hT1.at_ hlt
      obtain ⟨ht0, ht1, ht2, ht3, A3, c3, ht4, ht5, ht6⟩ := hta.below hw
      have HNX := Lib.hid (filt_next hlt)
      generalize l7[k] = t at *
      have hsw := hw.size
      by_cases hz : t.name = zzN
      · have q1 : (t.name == [122, 122]) = true := by rw [hz]; rfl
        have HN := Lib.hid (show (l7.take (k + 1)).filter notZ = D by rw [HNX.out, hD.out]; simp [notZ, hz])
        clear hz hta ht6
        go_wp2
        go_roundw
        case rel => exact ⟨k + 1, D, xs, A2, c2, rfl, by go_num, by omega, by omega, HN.out.symm, by omega, hDc, hown, hts, hw⟩
        case measure => simp [intOf]; omega
      · have q1 : (t.name == [122, 122]) = false := beq_eq_false_iff_ne.2 hz
        have HN := Lib.hid (show (l7.take (k + 1)).filter notZ = D ++ [t] by rw [HNX.out, hD.out]; simp [notZ, hz])
        have HTI := Lib.hid (show ∀ w', Below W1.heap.size wr w' → TIs w' (fun b => b < W1.heap.size) t [.int .i64 t.kind, .string ⟨t.name.toArray⟩, .slice A3 t.attrs.length c3, .string ⟨t.text.toArray⟩] from fun w' hw' => ⟨A3, c3, rfl, ht5, Rd.below (B := W1.heap.size) ht6 hw'⟩)
        clear hz hta ht6
        go_wp2_with (at_builtin; go_must (refine wpList_push_at rfl _ _ _ rfl W1.heap.size rowTk A2 D.length c2 xs rfl hown [.int .i64 t.kind, .string ⟨t.name.toArray⟩, .slice A3 t.attrs.length c3, .string ⟨t.text.toArray⟩] _ rfl rfl (by simp [Value.oneCell']) (by unfold maxLen; omega) (by omega) hsw ?_))
        intro A4 c4 w4 hc4 ho4 hg4 hat4
        have b4 : Below W1.heap.size wr w4 := (Below.refl _ wr).grown hg4 hsw (own_ge hown)
        have hts4 : TsIs w4 (fun b => b < W1.heap.size) (D ++ [t]) (xs ++ [.int .i64 t.kind, .string ⟨t.name.toArray⟩, .slice A3 t.attrs.length c3, .string ⟨t.text.toArray⟩]) := (hts.keep fun p hp => b4.cell hp).append (TsIs.single (HTI.out w4 b4))
        have HO4 := Lib.hid ho4
        have HT4 := Lib.hid hts4
        clear hg4 hat4 hown hts ho4 hts4
        go_wp2
        go_roundw
        case rel => exact ⟨k + 1, D ++ [t], _, A4, c4, by simp, by go_num, by omega, by omega, HN.out.symm, by simp; omega, by simpa using hc4, by simpa using HO4.out, HT4.out, hw.trans b4⟩
        case measure => simp [intOf]; omega
    · have hD2 : D = ownT l7 := by
        rw [hD.out]
        have : l7.take k = l7.take 30 := by
          by_cases h4 : k = 30
          · rw [h4]
          · rw [List.take_of_length_le (by omega), List.take_of_length_le (by omega)]
        rw [this]; rfl
      subst hD2
      have HNO := Lib.hid (ownT_no l7)
      have HOK := Lib.hid (show ∀ t ∈ ownT l7, TkOk t from fun t ht => hok t (List.mem_of_mem_take (List.mem_filter.1 ht).1))
      have hn30 : (ownT l7).length ≤ 30 := by omega
      generalize ownT l7 = own at *
      have hsw := hw.size
      have hl1 := World.ownsRow_lit (base := wr.heap.size) (e := 29) (size := 4) wr #[.int .i64 1, .string ⟨#[122, 122]⟩, .slice none 0 0, .string ⟨#[]⟩] 1 (Nat.le_refl _) (by unfold maxLen; omega) rfl
      have hr1 : Rd (wr.alloc (.cells #[.int .i64 1, .string ⟨#[122, 122]⟩, .slice none 0 0, .string ⟨#[]⟩] 29)) wr.heap.size 4 A2 own.length xs := (Rd.of_own hown).alloc (Nat.le_refl _) _
      have b1a : Below wr.heap.size wr (wr.alloc (.cells #[.int .i64 1, .string ⟨#[122, 122]⟩, .slice none 0 0, .string ⟨#[]⟩] 29)) := (Below.refl _ wr).alloc (Nat.le_refl _) _
      have hrd : Rd wr wr.heap.size 4 A2 own.length xs := Rd.of_own hown
      have HXO := Lib.hid hts.one
      have HRD := Lib.hid hrd
      have HTS := Lib.hid hts
      clear hts hown hrd
      have hsa : wr.heap.size ≤ (wr.alloc (.cells #[.int .i64 1, .string ⟨#[122, 122]⟩, .slice none 0 0, .string ⟨#[]⟩] 29)).heap.size := b1a.size
      by_cases hkl : k < l7.length
      have h30 : ¬ k < 30 := by omega
      clear hlt
      go_upto_region 8 with fail
      rotate_left
      clear hlt
      go_upto_region 8 with fail
      all_goals
        go_upto_region 10 with (at_builtin; go_must (refine wpList_spread rfl _ _ _ rfl wr.heap.size rowTk (some ⟨wr.heap.size, 0, none⟩) 1 1 _ rfl hl1 wr.heap.size A2 own.length c2 xs rfl hr1 HXO.out (by unfold maxLen; omega) (by omega) hsa ?_))
        intro A5 c5 w5 hc5 ho5 hg5
        have b5 : Below wr.heap.size wr w5 := b1a.grown hg5 hsa (own_ge hl1)
        have hs5 := b5.size
        clear hg5 hl1 hr1 b1a hsa
        have hr6 : Rd (w5.alloc (.cells #[.int .i64 2, .string ⟨#[122, 122]⟩, .slice none 0 0, .string ⟨#[]⟩, .int .i64 3, .string ⟨#[]⟩, .slice none 0 0, .string ⟨#[116]⟩] 29)) (w5.heap.size + 1) 4 (some ⟨w5.heap.size, 0, none⟩) 2 [.int .i64 2, .string ⟨#[122, 122]⟩, .slice none 0 0, .string ⟨#[]⟩, .int .i64 3, .string ⟨#[]⟩, .slice none 0 0, .string ⟨#[116]⟩] :=
          ⟨rfl, fun _ => ⟨_, rfl, by simp, fun j u hu => World.news_of_block (fr := (0, 0)) (heap_alloc_new w5 _) j u (by simpa using hu)⟩⟩
        have ho5a := ho5.alloc (.cells #[.int .i64 2, .string ⟨#[122, 122]⟩, .slice none 0 0, .string ⟨#[]⟩, .int .i64 3, .string ⟨#[]⟩, .slice none 0 0, .string ⟨#[116]⟩] 29)
        have b5a := b5.alloc hs5 (.cells #[.int .i64 2, .string ⟨#[122, 122]⟩, .slice none 0 0, .string ⟨#[]⟩, .int .i64 3, .string ⟨#[]⟩, .slice none 0 0, .string ⟨#[116]⟩] 29)
        have hs5a := b5a.size
        go_upto_region 11 with (at_builtin; go_must (refine wpList_spread rfl _ _ _ rfl wr.heap.size rowTk A5 (1 + own.length) c5 _ rfl ho5a (w5.heap.size + 1) (some ⟨w5.heap.size, 0, none⟩) 2 2 _ rfl hr6 (by simp [Value.oneCell']) (by unfold maxLen; omega) (by omega) hs5a ?_))
        intro A6 c6 w6 hc6 ho6 hg6
        have b6 : Below wr.heap.size wr w6 := b5a.grown hg6 hs5a (own_ge ho5a)
        have hs6 := b6.size
        have hlw : 1 + own.length + 2 = (wrapT own).length := by simp [wrapT]; omega
        have hTo : Toks w6 w6.heap.size A2 own.length own := by
          refine ⟨xs, Rd.more (HRD.out.below b6) hs6, (HTS.out.keep fun p hp => b6.cell (Nat.lt_of_lt_of_le hp hsw)).more fun q hq => by have : q < W1.heap.size := hq; omega⟩
        have hlit : ∀ (kd : Int) (nm tx : List UInt8), TIs w6 (fun b => b < w6.heap.size) ⟨kd, nm, [], tx⟩ [.int .i64 kd, .string ⟨nm.toArray⟩, .slice none 0 0, .string ⟨tx.toArray⟩] := fun kd nm tx => ⟨none, 0, rfl, Nat.le_refl _, RdP.nil _ _ _ _⟩
        have hTa : Toks w6 w6.heap.size A6 (wrapT own).length (wrapT own) := by
          rw [← hlw]
          refine ⟨_, Rd.of_own ho6, ?_⟩
          obtain ⟨ys, _, hts6⟩ := hTo
          have ho := (HTS.out.keep (w' := w6) fun p hp => b6.cell (Nat.lt_of_lt_of_le hp hsw)).more (S' := fun q => q < w6.heap.size) fun q hq => by have : q < W1.heap.size := hq; omega
          exact (TsIs.single (hlit 1 [122, 122] [])).append (ho.append ((TsIs.single (hlit 2 [122, 122] [])).append (TsIs.single (hlit 3 [] [116])))) |> fun h => by simpa [wrapT, zzN] using h
        have hwg : wgL (treeL own) ≤ 1000000 := by
          have h8 := weighs_law own
          have h9 := tksWt_le own HOK.out
          omega
        have hlw3 : (wrapT own).length ≤ 290 := by rw [← hlw]; omega
        have hlwc : (wrapT own).length ≤ c6 := by rw [← hlw]; exact hc6
        have hokw : ∀ t ∈ wrapT own, TkOk t := by
          intro t ht
          simp only [wrapT, List.mem_cons, List.mem_append, List.not_mem_nil, or_false] at ht
          rcases ht with rfl | ht | rfl | rfl
          · exact ⟨by decide, by decide, by decide, by decide⟩
          · exact HOK.out t ht
          · exact ⟨by decide, by decide, by decide, by decide⟩
          · exact ⟨by decide, by decide, by decide, by decide⟩
        have HLAW := Lib.hid (wraps_law own HNO.out)
        rw [hlw]
        have B6 := Lib.hid ((b1.trans (hw.mono b1.size)).trans (b6.mono (Nat.le_trans b1.size hsw)))
        have hWs : W.heap.size ≤ w6.heap.size := B6.out.size
        clear ho6 hg6 hlw ho5 ho5a b5a b5 hr6 hs5 hs5a hlit
        go_wp2_with fail
        refine (Tree_any hTo hDc (by omega) HOK.out).mono ?_
        rintro e W7 ⟨A7, c7, D7, rfl, h7, hn7, b7, hD7⟩
        have hN7 : Nodes W7 W7.heap.size A7 (treeL own).length (treeL own) := hn7.lt fun q hq => (hD7 q hq).2.1
        have hTree : Calls Try.prog 15 #[.slice A6 (wrapT own).length c6] W7 fun e w' => ∃ A' c' D, e = .returned (.slice A' 2 c') ∧ 2 ≤ c' ∧ NodesP w' D A' 2 [elemN zzH (treeL own), .mk 2 [] [] [116] []] ∧ Below W7.heap.size W7 w' ∧
            ∀ q, D q → W7.heap.size ≤ q ∧ q < w'.heap.size ∧ ∃ arr e, w'.heap[q]? = some (.cells arr e (0, 0)) := by
          have := Tree_any (hTa.on b7) hlwc hlw3 hokw
          rw [HLAW.out] at this
          exact this
        have HTree := Lib.hid hTree
        clear hTree hn7 hTa hTo
        go_wp2_with fail
        refine HTree.out.mono ?_
        rintro e W8 ⟨A8, c8, D8, rfl, h8, hn8, b8, hD8⟩
        have hN8 : Nodes W8 W8.heap.size A8 2 [elemN zzH (treeL own), .mk 2 [] [] [116] []] := hn8.lt fun q hq => (hD8 q hq).2.1
        have hN78 := hN7.on b8
        obtain ⟨a, x1, x2, x3, x4, x5, x6, rfl, _, _, g1, _, _, g2, _, _, hx6, hx⟩ := hN8.at_ (k := 0) (by omega) (by simp)
        obtain ⟨a', y1, y2, y3, y4, y5, y6, he, hab, _, _, _, g3, _⟩ := hN8.at_ (k := 1) (by omega) (by simp)
        injection he with he
        subst he
        have hxl := hx.len
        simp only [List.getElem_cons_zero, elemN, Nd.kids] at hxl hx
        subst hxl
        rw [add_pos _ _ (by omega)] at g1 g2 g3
        have f1 : W8.cell? ⟨a.block, a.off + 1, none⟩ = some (.string ⟨#[122, 122]⟩) := g1
        have f2 : W8.cell? ⟨a.block, a.off + 4, none⟩ = some (.slice x4 (treeL own).length x6) := g2
        have f3 : W8.cell? ⟨a.block, a.off + 5 + 3, none⟩ = some (.string ⟨#[116]⟩) := g3
        have h82 : 2 ≤ c8 := h8
        have HSame := Lib.hid (Same_any (treeL own) W8 x4 A7 x6 c7 hx hN78 hx6 h7 hwg)
        have B8 := Lib.hid ((B6.out.trans (b7.mono hWs)).trans (b8.mono (Nat.le_trans hWs b7.size)))
        clear g1 g2 g3 hN8 hN7 hN78 hx hn8 h8 h7
        go_wp2_with fail
        refine HSame.out.mono ?_
        rintro e W9 ⟨rfl, b9⟩
        have f4 := (b9.cell (p := ⟨a.block, a.off + 5 + 3, none⟩) hab).trans f3
        have B9 := B8.out.trans (b9.mono B8.out.size)
        clear f1 f2 f3
        go_wp2_with fail
        refine (lives_any _).mono ?_
        rintro e W10 ⟨rfl, b10⟩
        go_wp2
        go_ret
        exact ⟨rfl, B9.trans (b10.mono B9.size)⟩
end Go.Proofs.Ytlmpjjgdhakecaa
