/- strainerref07.Cut: few tokens, few bytes. -/
import Derived.Test.YtlfkipilgdeemaaKr
namespace Go.Proofs.Ytlfkipilgdeemaa
open Go.RowKit Go.Maps Go.WideMaps
attribute [local go_sem ↓] Go.wp_at_zero Go.wp_at_succ

def cutT (t : Tk) : Tk := ⟨t.kind, t.name.take 30, (t.attrs.take 5).map cutA, t.text.take 30⟩
def cut7 (l : List Tk) : List Tk := (l.take 40).map cutT
theorem cut7_length (l : List Tk) : (cut7 l).length ≤ 40 := by rw [cut7, List.length_map, List.length_take]; omega
theorem cutT_ok {t : Tk} (h : KindOk t.kind) : TkOk (cutT t) := ⟨h, by simp only [cutT, List.length_take]; omega, by simp only [cutT, List.length_take]; omega, by simp only [cutT, List.length_map, List.length_take]; omega⟩
theorem cut_one (k : Int) (nm : List UInt8) (ats : List Atr) (tx : List UInt8) : (cutL [.mk k nm ats tx []] 40).1 = [.mk k (nm.take 30) ((ats.take 5).map cutA) (tx.take 30) []] := by
  rw [cutL_cons _ _ (by omega), cut1_eq, cutL_nil]
  simp only [Nd.kind, Nd.name, Nd.attrs, Nd.text, Nd.kids, cutL_nil]

set_option maxHeartbeats 4000000 in
set_option maxRecDepth 100000 in
theorem Cut7_any {w : World} {A : Option Addr} {c : Nat} {l : List Tk} (hT : Toks w w.heap.size A l.length l) (hc : l.length ≤ c) :
    Calls Try.prog 6 #[.slice A l.length c] w fun e w' => ∃ A' c', e = .returned (.slice A' (cut7 l).length c') ∧ (cut7 l).length ≤ c' ∧ ToksP w' (fun b => w.heap.size ≤ b ∧ b < w'.heap.size) A' (cut7 l).length (cut7 l) ∧ Below w.heap.size w w' := by
  go_enter Try.func6, Try.ntmps6
  go_wp2
  go_loopw [3, 4] (fun v iv wr => ∃ (k : Nat) (xs : List Value) (A1 : Option Addr) (c1 : Nat), v = .slice A1 k c1 ∧ iv = .int .i64 k ∧ k ≤ l.length ∧ k ≤ 40 ∧ k ≤ c1 ∧ wr.ownsRow w.heap.size 29 4 (.slice A1 k c1) k xs ∧ TsIs wr (Apart w.heap.size wr (.slice A1 k c1)) ((l.take k).map cutT) xs ∧ Below w.heap.size w wr) (fun _ iv _ => l.length - (intOf iv).toNat)
  case atStart => exact ⟨0, [], none, 0, rfl, rfl, Nat.zero_le _, Nat.zero_le _, Nat.zero_le _, World.ownsRow_nil _ _ _ _, TsIs.nil _ _, Below.refl _ _⟩
  case round =>
    obtain ⟨k, xs, A1, c1, rfl, rfl, hk, hk40, hkc, hown, hts, hw⟩ := hrel
    by_cases hlt : k < l.length ∧ k < 40
    · obtain ⟨hlt, hlt2⟩ := hlt
      obtain ⟨a, rfl, hta⟩ := hT.at_ hlt
      obtain ⟨ht0, ht1, ht2, ht3, A2, c2, ht4, ht5, ht6⟩ := hta
      have HNX := Lib.hid (show (l.take (k + 1)).map cutT = (l.take k).map cutT ++ [cutT l[k]] by rw [List.take_succ_eq_append_getElem hlt, List.map_append]; rfl)
      generalize l[k] = t at *
      have hsw := hw.size
      have f1 : ∀ w', Below wr.heap.size wr w' → w'.cell? (a.add (k * 4)) = some (.int .i64 t.kind) := fun w' h => ((hw.trans (h.mono hsw)).cell ht0).trans ht1
      have f2 : ∀ w', Below wr.heap.size wr w' → w'.cell? ⟨(a.add (k * 4)).block, (a.add (k * 4)).off + 1, none⟩ = some (.string ⟨t.name.toArray⟩) := fun w' h => ((hw.trans (h.mono hsw)).cell (p := ⟨(a.add (k * 4)).block, (a.add (k * 4)).off + 1, none⟩) ht0).trans ht2
      have f3 : ∀ w', Below wr.heap.size wr w' → w'.cell? ⟨(a.add (k * 4)).block, (a.add (k * 4)).off + 3, none⟩ = some (.string ⟨t.text.toArray⟩) := fun w' h => ((hw.trans (h.mono hsw)).cell (p := ⟨(a.add (k * 4)).block, (a.add (k * 4)).off + 3, none⟩) ht0).trans ht3
      have f4 : ∀ w', Below wr.heap.size wr w' → w'.cell? ⟨(a.add (k * 4)).block, (a.add (k * 4)).off + 2, none⟩ = some (.slice A2 t.attrs.length c2) := fun w' h => ((hw.trans (h.mono hsw)).cell (p := ⟨(a.add (k * 4)).block, (a.add (k * 4)).off + 2, none⟩) ht0).trans ht4
      have hbel := Below.refl wr.heap.size wr
      clear ht1 ht2 ht3 ht4
      go_upto_region 5 with fail
      go_region_held3 (fun w' => Below wr.heap.size wr w')
        (first
          | exact hbel
          | go_keep
          | (exact Below.drew (by assumption))
          | (exact Below.alloc (by assumption) (Below.size (by assumption)) _)
          | (exact hbel.drew)
          | (exact hbel.drew.alloc (Nat.le_refl _) _))
        (fail)
      have B1 : Below wr.heap.size wr (wr.alloc (.cells #[.int .i64 0, .string ⟨t.name.toArray⟩, .slice A2 t.attrs.length c2, .string ⟨t.text.toArray⟩, .slice none 0 0] 33)).drew := (hbel.alloc (Nat.le_refl _) _).drew
      have s1 : (wr.alloc (.cells #[.int .i64 0, .string ⟨t.name.toArray⟩, .slice A2 t.attrs.length c2, .string ⟨t.text.toArray⟩, .slice none 0 0] 33)).drew.heap.size = wr.heap.size + 1 := World.size_alloc _ _
      generalize hW1 : (wr.alloc (.cells #[.int .i64 0, .string ⟨t.name.toArray⟩, .slice A2 t.attrs.length c2, .string ⟨t.text.toArray⟩, .slice none 0 0] 33)).drew = W1 at *
      have hbx : W1.heap[wr.heap.size]? = some (.cells #[.int .i64 0, .string ⟨t.name.toArray⟩, .slice A2 t.attrs.length c2, .string ⟨t.text.toArray⟩, .slice none 0 0] 33 (0, 0)) := by rw [← hW1]; exact heap_alloc_new wr _
      have x0 := Lib.cell_of_heap hbx 0
      have x1 := Lib.cell_of_heap hbx 1
      have x2 := Lib.cell_of_heap hbx 2
      have x3 := Lib.cell_of_heap hbx 3
      have x4 := Lib.cell_of_heap hbx 4
      simp only [List.getElem?_toArray, List.getElem?_cons_zero, List.getElem?_cons_succ] at x0 x1 x2 x3 x4
      have B2 : Below wr.heap.size wr (W1.alloc (.cells #[.int .i64 0, .string ⟨t.name.toArray⟩, .slice A2 t.attrs.length c2, .string ⟨t.text.toArray⟩, .slice none 0 0] 33)) := B1.alloc B1.size _
      have hN : Nodes (W1.alloc (.cells #[.int .i64 0, .string ⟨t.name.toArray⟩, .slice A2 t.attrs.length c2, .string ⟨t.text.toArray⟩, .slice none 0 0] 33)) (W1.alloc (.cells #[.int .i64 0, .string ⟨t.name.toArray⟩, .slice A2 t.attrs.length c2, .string ⟨t.text.toArray⟩, .slice none 0 0] 33)).heap.size (some ⟨wr.heap.size + 1, 0, none⟩) 1 [.mk 0 t.name t.attrs t.text []] := by
        refine ⟨[.int .i64 0, sv t.name, .slice A2 t.attrs.length c2, sv t.text, .slice none 0 0], ⟨rfl, fun _ => ⟨_, rfl, by rw [World.size_alloc, s1]; simp, fun j u hu => ?_⟩⟩, NsIsP.single (NIsP.mk' ht5 ?_ (Nat.le_refl 0) (NodesP.nil _ _ _))⟩
        · rw [← s1]
          exact World.news_of_block (fr := (0, 0)) (heap_alloc_new W1 _) j u (by simpa [sv] using hu)
        · exact (Rd.below (B := w.heap.size) ht6 (hw.trans (B2.mono hsw))).more (by rw [World.size_alloc, s1]; omega)
      have hcall := Few_any (l := [.mk 0 t.name t.attrs t.text []]) (c := 1) hN (Nat.le_refl 1)
      rw [cut_one] at hcall
      simp only [List.length_cons, List.length_nil, Nat.zero_add] at hcall
      have HN := Lib.hid hcall
      clear hcall
      have HB2 := Lib.hid B2
      clear hN B2 hbx hW1 B1
      go_wp2_with fail
      refine HN.out.mono ?_
      rintro e W5 ⟨A5, c5, rfl, h5, hn5, b5⟩
      obtain ⟨ys, hrd, y1, y2, rfl, hy, rfl⟩ := hn5
      simp only [NIsP] at hy
      obtain ⟨A6, n6, c6, A7, n7, c7, zs, rfl, p1, p2, p3, p4, p5⟩ := hy
      rw [World.size_alloc, s1] at hrd p2 b5
      obtain ⟨a6, rfl, hblk, hcell⟩ := hrd.2 (by simp)
      have hn6 : n6 = (cutT t).attrs.length := by
        have := p2.1
        rw [atrCells_length] at this
        simp only [cutT]
        omega
      have B5 : Below wr.heap.size wr W5 := HB2.out.trans (b5.mono (by omega))
      have s5 := b5.size
      rw [World.size_alloc, s1] at s5
      have hc6 : ∀ j, 0 < j → ∀ v, ([.int .i64 0, sv (t.name.take 30), .slice A6 n6 c6, sv (t.text.take 30), .slice A7 n7 c7] : List Value)[j]? = some v → ∀ w', Below W5.heap.size W5 w' → w'.cell? ⟨a6.block, a6.off + j, none⟩ = some v := by
        intro j hj v hv w' hw'
        rw [hw'.cell (p := ⟨a6.block, a6.off + j, none⟩) hblk.2, ← add_pos a6 j hj]
        exact hcell j v (by rw [List.append_nil]; exact hv)
      have g1 := hc6 1 (by omega) (.string ⟨(t.name.take 30).toArray⟩) rfl
      have g2 := hc6 2 (by omega) _ rfl
      have g3 := hc6 3 (by omega) (.string ⟨(t.text.take 30).toArray⟩) rfl
      have f5 : ∀ w', Below W5.heap.size W5 w' → w'.cell? (a.add (k * 4)) = some (.int .i64 t.kind) := fun w' h => f1 w' (B5.trans (h.mono B5.size))
      have g0 := f5 W5 (Below.refl _ _)
      replace g1 := g1 W5 (Below.refl _ _)
      replace g2 := g2 W5 (Below.refl _ _)
      replace g3 := g3 W5 (Below.refl _ _)
      have hab : (a.add (k * 4)).block < w.heap.size := ht0
      have hfar : ∀ q, (q < w.heap.size ∨ wr.heap.size ≤ q) → some q ≠ (Value.slice A1 k c1).ownBlock := fun q hq e => by have h7 := hown.lt q e.symm; omega
      clear f5
      have hown5 := own_below hown B5 (Nat.le_refl _)
      have hts5 := below_toks hts B5
      have hlo : ∀ q, (Value.slice A1 k c1).ownBlock = some q → q < wr.heap.size := fun q hq => (hown.lt q hq).2
      have HP2 := Lib.hid p2
      have HB5 := Lib.hid B5
      have h15 : 1 ≤ c5 := h5
      have hW5 : w.heap.size ≤ W5.heap.size := by omega
      obtain ⟨nm7, hnm7⟩ : ∃ x, x = t.name.take 30 := ⟨_, rfl⟩
      obtain ⟨tx7, htx7⟩ : ∃ x, x = t.text.take 30 := ⟨_, rfl⟩
      rw [← hnm7] at g1
      rw [← htx7] at g3
      have hTI : ∀ (W' : World) (S : Nat → Prop), (∀ p : Addr, wr.heap.size + 2 ≤ p.block ∧ p.block < W5.heap.size → W'.cell? p = W5.cell? p) → (∀ q, wr.heap.size + 2 ≤ q ∧ q < W5.heap.size → S q) → TIs W' S (cutT t) [.int .i64 t.kind, .string ⟨nm7.toArray⟩, .slice A6 n6 c6, .string ⟨tx7.toArray⟩] := by
        intro W' S hk hS
        subst hn6 hnm7 htx7
        exact ⟨A6, c6, rfl, p1, (HP2.out.keep (fun p hp => hk p ⟨by have := hp.1; omega, hp.2⟩)).more (fun q hq => hS q ⟨by have := hq.1; omega, hq.2⟩)⟩
      have HTI := Lib.hid hTI
      have HW := Lib.hid hw
      have HN6 := Lib.hid (And.intro hn6 (And.intro hnm7 htx7))
      clear f1 f2 f3 f4 hcell hrd p5 p4 p2 B5 hts hown hbel hn6 hnm7 htx7 hTI hc6 h5
      go_upto_region 7 with fail
      go_region_held3 (fun w' => w'.cell? (a.add (k * 4)) = some (.int .i64 t.kind) ∧ w'.cell? ⟨a6.block, a6.off + 1, none⟩ = some (.string ⟨nm7.toArray⟩) ∧ w'.cell? ⟨a6.block, a6.off + 2, none⟩ = some (.slice A6 n6 c6) ∧ w'.cell? ⟨a6.block, a6.off + 3, none⟩ = some (.string ⟨tx7.toArray⟩))
        (first
          | go_keep
          | (go_split_ands
             refine ⟨?_, ?_, ?_, ?_⟩
             · (rw [hg6.cell_far _ (by simp; omega) (hfar _ (by first | omega | (simp only []; omega)))]; assumption)
             · (rw [hg6.cell_far _ (by simp; omega) (hfar _ (by first | omega | (simp only []; omega)))]; assumption)
             · (rw [hg6.cell_far _ (by simp; omega) (hfar _ (by first | omega | (simp only []; omega)))]; assumption)
             · (rw [hg6.cell_far _ (by simp; omega) (hfar _ (by first | omega | (simp only []; omega)))]; assumption)))
        (first
          | (refine step_push (by rfl) _ _ _ (by rfl) w.heap.size rowTk A1 k c1 _ (by rfl) ((hown5.alloc _).drew) W5.heap.size 1 _ (by rfl) (heap_alloc_new W5 _) (by rfl) (by simp [Value.oneCell']) (by unfold maxLen; omega) (by omega) (by simp; omega) ?_; intro A8 c8 w6 hc8 ho6 hg6 hat6))
      have b6 : Below w.heap.size w w6 := (HW.out.trans (HB5.out.mono hsw)).trans ((((Below.refl w.heap.size W5).alloc hW5 _).drew).grown hg6 (by simp; omega) (fun q hq => by have := (hown5.lt q hq).1; omega))
      have hT6 : TsIs w6 (Apart w.heap.size w6 (.slice A8 (k + 1) c8)) ((l.take (k + 1)).map cutT) (xs ++ [.int .i64 t.kind, .string ⟨nm7.toArray⟩, .slice A6 n6 c6, .string ⟨tx7.toArray⟩]) := by
        rw [HNX.out]
        refine push_toks (below_toks hts5 (((Below.refl _ W5).alloc (Nat.le_refl _) _).drew) |>.append (TsIs.single (HTI.out _ _ (fun p hp => ?_) (fun q hq => ⟨by omega, ?_, ?_⟩)))) hg6 hat6
        · exact World.cell?_of_block (Below.heap_alloc W5 _ _ hp.2)
        · show q < (W5.alloc _).heap.size
          rw [World.size_alloc]; omega
        · intro e
          have := hlo q e
          omega
      have HO6 := Lib.hid ho6
      have HT6 := Lib.hid hT6
      have hc8' : k + 1 ≤ c8 := hc8
      clear hT6 ho6 hg6 hat6 hts5 hown5 hfar hlo ht6 g0 g1 g2 g3 x0 x1 x2 x3 x4
      go_wp2
      go_roundw
      case rel => exact ⟨k + 1, _, A8, c8, rfl, by go_num, by omega, by omega, hc8', HO6.out, HT6.out, b6⟩
      case measure => simp [intOf]; omega
    · have hk2 : (l.take k).map cutT = cut7 l ∧ k = (cut7 l).length := by
        have : l.take k = l.take 40 := by
          by_cases h4 : k = 40
          · rw [h4]
          · rw [List.take_of_length_le (by omega), List.take_of_length_le (by omega)]
        refine ⟨by rw [this]; rfl, ?_⟩
        rw [cut7, List.length_map, List.length_take]
        omega
      rw [hk2.1] at hts
      have hres := toks_of_own hown hts
      have HK := Lib.hid hk2.2
      have HR := Lib.hid hres
      clear hk2 hres hown hts
      by_cases h1 : k < l.length
      · have h2 : ¬ k < 40 := by omega
        clear hlt
        go_wp2
        go_ret
        exact ⟨A1, c1, by rw [← HK.out]; rfl, by rw [← HK.out]; exact hkc, by rw [← HK.out]; exact HR.out, hw⟩
      · clear hlt
        go_wp2
        go_ret
        exact ⟨A1, c1, by rw [← HK.out]; rfl, by rw [← HK.out]; exact hkc, by rw [← HK.out]; exact HR.out, hw⟩
end Go.Proofs.Ytlfkipilgdeemaa
