/- strainerref03: good, Good. -/
import Derived.Test.YtninjljkdbemkaaG5p
import Derived.Test.YtninjljkdbemkaaWb
import Derived.Test.YtninjljkdbemkaaG4
import Derived.Deep.DeepCutAuto
namespace Go.Proofs.Ytninjljkdbemkaa
open Go.RowKit
attribute [local go_sem ↓] Go.wp_at_zero Go.wp_at_succ

theorem hdrew (w : World) : w.drew.heap = w.heap := rfl
theorem bcell {W w1 : World} (hb : Below W.heap.size W w1) : (∀ b o, b < W.heap.size → w1.cell? ⟨b, o, none⟩ = W.cell? ⟨b, o, none⟩) ∧ (∀ b o, b < W.heap.size → w1.frozen? ⟨b, o, none⟩ = W.frozen? ⟨b, o, none⟩) :=
  ⟨fun b o h => hb.cell (p := ⟨b, o, none⟩) h, fun b o h => hb.frozen (p := ⟨b, o, none⟩) h⟩
/-- block g holds these bytes -/
def BytesAt (W : World) (g : Nat) (l : List UInt8) : Prop := ∃ N e fz, W.heap[g]? = some (.cells (bytesRow ⟨l.toArray⟩ N) e fz)
theorem BytesAt.new {w : World} {g N : Nat} {l : List UInt8} {e : TypeId} {fz : Nat × Nat} (h : w.heap.size = g) : BytesAt (w.alloc (.cells (bytesRow ⟨l.toArray⟩ N) e fz)) g l := by
  subst h
  exact ⟨_, _, _, heap_alloc_new _ _⟩
theorem BytesAt.drew {w : World} {g : Nat} {l : List UInt8} (h : BytesAt w g l) : BytesAt w.drew g l := h
theorem BytesAt.lt {w : World} {g : Nat} {l : List UInt8} (h : BytesAt w g l) : g < w.heap.size := by
  obtain ⟨N, e, fz, h⟩ := h
  exact (Array.getElem?_eq_some_iff.1 h).1
theorem BytesAt.below {w w' : World} {g : Nat} {l : List UInt8} (h : BytesAt w g l) (hb : Below w.heap.size w w') : BytesAt w' g l := by
  have hl := h.lt
  obtain ⟨N, e, fz, h⟩ := h
  exact ⟨N, e, fz, (hb.block g hl).trans h⟩
theorem BytesAt.alloc {w : World} {g : Nat} {l : List UInt8} (h : BytesAt w g l) (o : Obj) : BytesAt (w.alloc o) g l := h.below ((Below.refl _ w).alloc (Nat.le_refl _) o)
theorem bytes_at {W : World} {g : Nat} {l : List UInt8} (h : BytesAt W g l) : Rd W W.heap.size 1 (some ⟨g, 0, none⟩) l.length (Lib.byteCells l) := by
  obtain ⟨N, e, fz, h⟩ := h
  refine (Rd.of_heap (n := l.length) (xs := Lib.byteCells l) h (bytesRow_take _ N (IsStr.mk l)) (by rw [Lib.byteCells_length])).more ?_
  exact (Array.getElem?_eq_some_iff.1 h).1

/-- what good does with nodes -/
def GoodOk (l : List Nd) : Prop := ∀ (w : World) (A : Option Addr) (c : Nat), Nodes w w.heap.size A l.length l → l.length ≤ c → SmL l → l.length ≤ 40 →
    Calls Try.prog 19 #[.slice A l.length c] w fun e w' => ∃ A' c', e = .returned (.slice A' (goodL l).length c') ∧ (goodL l).length ≤ c' ∧
      NodesP w' (fun b => w.heap.size ≤ b ∧ b < w'.heap.size) A' (goodL l).length (goodL l) ∧ Below w.heap.size w w'

set_option maxHeartbeats 16000000 in
set_option maxRecDepth 100000 in
/-- strainerref03.good -/
theorem good_step (l : List Nd) (ih : ∀ l', wtL l' < wtL l → GoodOk l') : GoodOk l := by
  intro w A c hN hc hsm hl40
  have IH := Lib.hid ih
  clear ih
  go_enter Try.func19, Try.ntmps19
  go_wp2
  go_loopw [3, 4] (fun v i wr => ∃ (k : Nat) (D : List Nd) (xs : List Value) (A1 : Option Addr) (c1 : Nat), v = .slice A1 D.length c1 ∧ i = .int .i64 k ∧ k ≤ l.length ∧ k = D.length ∧
      D = goodM (l.take k) ∧ wr.ownsRow w.heap.size 28 5 (.slice A1 D.length c1) D.length xs ∧ NsIsP wr (Apart w.heap.size wr (.slice A1 D.length c1)) D xs ∧ Below w.heap.size w wr ∧ D.length ≤ c1)
      (fun _ i _ => l.length - (intOf i).toNat)
  case atStart => exact ⟨0, [], [], none, 0, rfl, rfl, Nat.zero_le _, rfl, by simp [goodM], World.ownsRow_nil _ _ _ _, NsIsP.nil _ _, Below.refl _ _, Nat.le_refl _⟩
  case round =>
    obtain ⟨k, D, xs, A1, c1, rfl, rfl, hk, hkD, hD, hown, hns, hb, hc1⟩ := hrel
    have HKD := Lib.hid hkD
    have hDl : D.length ≤ 40 := by omega
    clear hkD
    have hsz := hb.size
    by_cases hlt : k < l.length
    · obtain ⟨a, rfl, hna⟩ := (hN.below hb).node hlt hlt
      have hwt := wtL_at hlt
      have hs1 := (hsm.at_ hlt).parts
      have HDN := Lib.hid (show goodM (l.take (k + 1)) = D ++ [good1 l[k]] by rw [goodM_next hlt, hD])
      clear hD
      generalize l[k] = nd at *
      obtain ⟨hs1, hs2, hs3, hs4, hs5, hs6⟩ := hs1
      have gk := hna.k
      have hB0 : ∀ o, Below w.heap.size wr (wr.alloc o) := fun o => (Below.refl _ wr).alloc hsz o
      have gn : ∀ o, (wr.alloc o).cell? ⟨(a.add (k * 5)).block, (a.add (k * 5)).off + 1, none⟩ = some (.string ⟨nd.name.toArray⟩) := fun o => (hna.keep (hB0 o)).nm
      have gt : ∀ o, (wr.alloc o).cell? ⟨(a.add (k * 5)).block, (a.add (k * 5)).off + 3, none⟩ = some (.string ⟨nd.text.toArray⟩) := fun o => (hna.keep (hB0 o)).tx
      obtain ⟨A2, c2, ga, hac, hat⟩ := hna.ats
      obtain ⟨A3, c3, gd, hdc, hkd⟩ := hna.kd
      by_cases hg : gKind nd.kind = 1
      · have HG := Lib.hid (good1_elem nd hg)
        have hkk : nd.kind < 1 ∨ 3 < nd.kind ∨ nd.kind = 1 := by
          unfold gKind at hg
          split at hg <;> omega
        clear hg
        have q1 : nd.kind = 1 → (nd.kind != 1) = false := by intro h; simp [h]
        rcases hkk with hkk | hkk | hkk
        all_goals
          go_wp2_with fail
          refine (word_any (IsStr.mk nd.name) (by omega)).mono ?_
          rintro e W1 ⟨rfl, b1⟩
          rw [World.size_alloc] at b1
          have h1 := (b1.block wr.heap.size (by omega)).trans (heap_alloc_new wr _)
          have B1 : Below wr.heap.size wr W1 := ((Below.refl wr.heap.size wr).alloc (Nat.le_refl _) _).trans (b1.mono (by omega))
          have s1 := b1.size
          rw [World.size_alloc] at s1
          have c1' := Lib.cell_of_heap h1 1
          have f1 := Lib.frozen_of_heap h1 1
          simp only [List.getElem?_toArray, List.getElem?_cons_zero, List.getElem?_cons_succ] at c1'
          have h2 : (W1.setCell ⟨wr.heap.size, 1, none⟩ (sv (wordL nd.name))).heap[wr.heap.size]? = some (.cells #[.int .i64 1, sv (wordL nd.name), .slice none 0 0, sv [], .slice none 0 0] 28 (0, 0)) := by
            rw [heap_setCell_same W1 wr.heap.size 1 _ _ _ h1]; simp [sv]
          have B2 : Below wr.heap.size wr (W1.setCell ⟨wr.heap.size, 1, none⟩ (sv (wordL nd.name))) := B1.setCell (p := ⟨wr.heap.size, 1, none⟩) (Nat.le_refl _) _
          have s2 : (W1.setCell ⟨wr.heap.size, 1, none⟩ (sv (wordL nd.name))).heap.size = W1.heap.size := by simp [World.setCell]
          clear b1 gn gt
          unfold sv at h2 B2 s2
          go_wp2
          generalize W1.setCell ⟨wr.heap.size, 1, none⟩ (.string ⟨(wordL nd.name).toArray⟩) = W2 at *
          rw [← s2] at s1
          clear h1 c1' f1 B1 s2 W1
          obtain ⟨wo, rfl⟩ : ∃ wo : World, wo = wr := ⟨_, rfl⟩
          have hna2 := hna.keep (B2.mono hsz)
          go_loopw [6] (fun i wx => ∃ (j : Nat) (acc : List Atr) (A5 : Option Addr) (c5 : Nat), i = .int .i64 j ∧ j ≤ nd.attrs.length ∧ acc = (nd.attrs.take j).foldl goodAt [] ∧ acc.length ≤ j ∧ acc.length ≤ c5 ∧
              wx.heap[wo.heap.size]? = some (.cells #[.int .i64 1, .string ⟨(wordL nd.name).toArray⟩, .slice A5 acc.length c5, .string ⟨#[]⟩, .slice none 0 0] 28 (0, 0)) ∧
              wx.ownsRow W2.heap.size 40 2 (.slice A5 acc.length c5) acc.length (atrCells acc) ∧ Below wo.heap.size wo wx ∧ W2.heap.size ≤ wx.heap.size)
            (fun i _ => nd.attrs.length - (intOf i).toNat)
          case atStart => exact ⟨0, [], none, 0, rfl, Nat.zero_le _, rfl, Nat.zero_le _, Nat.zero_le _, h2, World.ownsRow_nil _ _ _ _, B2, Nat.le_refl _⟩
          case round =>
            obtain ⟨j, acc, A5, c5, rfl, hj, hacc, hal, hac5, hx2, ho5, b5, sx⟩ := hrel
            have hnx := hna.keep (b5.mono hsz)
            obtain ⟨A2', c2', ga', hac', hat'⟩ := hnx.ats
            by_cases hjl : j < nd.attrs.length
            · obtain ⟨ad, rfl, hab, hc0, hc1'⟩ := hat'.cells hjl hjl
              have hmem := hs4 nd.attrs[j] (List.getElem_mem _)
              have HNX := Lib.hid (goodAts_next hjl)
              rw [← hacc] at HNX
              have HACC := Lib.hid hacc
              clear hacc
              generalize nd.attrs[j] = at_ at *
              obtain ⟨hm1, hm2⟩ := hmem
              have hcb := fun (w : World) => run_bytes_of_string (P := Try.prog) w 9 36 5 ⟨at_.2.toArray⟩ Try.underlying9 Try.underlying36 Try.underlying5
              have hb5s := b5.size
              have hab2 : (a.add (k * 5)).block < wr.heap.size := by have := hna.1; omega
              have hab3 : (ad.add (j * 2)).block < wr.heap.size := by omega
              have hL1 : ∀ w', Below wr.heap.size wr w' → w'.cell? ⟨(a.add (k * 5)).block, (a.add (k * 5)).off + 2, none⟩ = some (.slice (some ad) nd.attrs.length c2') := fun w' hw => (hw.cell (p := ⟨(a.add (k * 5)).block, (a.add (k * 5)).off + 2, none⟩) hab2).trans ga'
              have hL2 : ∀ w', Below wr.heap.size wr w' → w'.cell? (ad.add (j * 2)) = some (.string ⟨at_.1.toArray⟩) := fun w' hw => (hw.cell hab3).trans hc0
              have hL3 : ∀ w', Below wr.heap.size wr w' → w'.cell? ⟨(ad.add (j * 2)).block, (ad.add (j * 2)).off + 1, none⟩ = some (.string ⟨at_.2.toArray⟩) := fun w' hw => (hw.cell (p := ⟨(ad.add (j * 2)).block, (ad.add (j * 2)).off + 1, none⟩) hab3).trans hc1'
              go_upto_region 15 with fail
              go_cut [7] (fun s7 wx => ∃ g : Nat, s7 = .pointer (some ⟨g, 0, none⟩) ∧ wx.cell? ⟨g, 0, none⟩ = some (.string ⟨(atrnL at_.1).toArray⟩) ∧ wx.cell? ⟨g, 1, none⟩ = some (.string ⟨(right at_.2).toArray⟩) ∧ wr.heap.size ≤ g ∧ Below wr.heap.size wr wx)
              case first =>
                refine wp_region_noPanic ?_
                refine wp_region_held_drew (S := fun w' => Below wr.heap.size wr w') (by kernel_rfl) ?_ (fun hHeld => ?_)
                · (try dsimp only)
                  repeat (first | assumption | with_reducible exact Below.refl _ _ | with_reducible refine Below.drew ?_ | with_reducible refine Below.alloc ?_ (by first | omega | (simp; omega) | simp) _ | with_reducible refine Below.setCell ?_ (by first | omega | (simp; omega) | simp) _ | with_reducible refine Below.trans ?_ (br.mono (by first | omega | (simp; omega) | simp)) | with_reducible refine Below.trans ?_ (ba.mono (by first | omega | (simp; omega) | simp)))
                refine wpAnyH_take (i := 0) (v := ?_) rfl (by kernel_rfl) (by kernel_rfl) (by kernel_rfl) (fun _ _ _ h => h) (Or.inl ⟨by rfl, ?_⟩) (by assumption) ?_
                rotate_left
                · (intro w hSw; (try dsimp only at hSw); go_simp; try with_reducible rfl)
                try simp only [Act.put, List.setIfInBounds_toArray, List.set_cons_zero, List.set_cons_succ]
                refine wpAnyH_take (i := 1) (v := ?_) rfl (by kernel_rfl) (by kernel_rfl) (by kernel_rfl) (fun _ _ _ h => h) (Or.inl ⟨by rfl, ?_⟩) (by assumption) ?_
                rotate_left
                · (intro w hSw; (try dsimp only at hSw); go_simp; try with_reducible rfl)
                try simp only [Act.put, List.setIfInBounds_toArray, List.set_cons_zero, List.set_cons_succ]
                refine wpAnyH_take (i := 2) (v := ?_) rfl (by kernel_rfl) (by kernel_rfl) (by kernel_rfl) (fun _ _ _ h => h) (Or.inl ⟨by rfl, ?_⟩) (by assumption) ?_
                rotate_left
                · (intro w hSw; (try dsimp only at hSw); go_simp; try with_reducible rfl)
                try simp only [Act.put, List.setIfInBounds_toArray, List.set_cons_zero, List.set_cons_succ]
                refine wpAnyH_take (i := 3) (v := ?_) rfl (by kernel_rfl) (by kernel_rfl) (by kernel_rfl) (fun _ _ _ h => h) (Or.inl ⟨by rfl, ?_⟩) (by assumption) ?_
                rotate_left
                · (intro w hSw; (try dsimp only at hSw); go_simp; try with_reducible rfl)
                try simp only [Act.put, List.setIfInBounds_toArray, List.set_cons_zero, List.set_cons_succ]
                refine wpAnyH_take (i := 4) (v := ?_) rfl (by kernel_rfl) (by kernel_rfl) (by kernel_rfl) (fun _ _ _ h => h) (Or.inl ⟨by rfl, ?_⟩) (by assumption) ?_
                rotate_left
                · (intro w hSw; (try dsimp only at hSw); go_simp; try with_reducible rfl)
                try simp only [Act.put, List.setIfInBounds_toArray, List.set_cons_zero, List.set_cons_succ]
                refine wpAnyH_take (i := 5) (v := ?_) rfl (by kernel_rfl) (by kernel_rfl) (by kernel_rfl) (fun _ _ _ h => h) (Or.inl ⟨by rfl, ?_⟩) (by assumption) ?_
                rotate_left
                · (intro w hSw; (try dsimp only at hSw); go_simp; try with_reducible rfl)
                try simp only [Act.put, List.setIfInBounds_toArray, List.set_cons_zero, List.set_cons_succ]
                refine wpAnyH_take (i := 6) (v := ?_) rfl (by kernel_rfl) (by kernel_rfl) (by kernel_rfl) (fun _ _ _ h => h) (Or.inl ⟨by rfl, ?_⟩) (by assumption) ?_
                rotate_left
                · (intro w hSw; (try dsimp only at hSw); go_simp; try with_reducible rfl)
                try simp only [Act.put, List.setIfInBounds_toArray, List.set_cons_zero, List.set_cons_succ]
                refine wpAnyH_take (i := 7) (v := ?_) rfl (by kernel_rfl) (by kernel_rfl) (by kernel_rfl) (fun _ _ _ h => h) (Or.inl ⟨by rfl, ?_⟩) (by assumption) ?_
                rotate_left
                · (intro w hSw; (try dsimp only at hSw); go_simp; try with_reducible rfl)
                try simp only [Act.put, List.setIfInBounds_toArray, List.set_cons_zero, List.set_cons_succ]
                refine wpAnyH_take (i := 8) (v := ?_) rfl (by kernel_rfl) (by kernel_rfl) (by kernel_rfl) (fun _ _ _ h => h) (Or.inl ⟨by rfl, ?_⟩) (by assumption) ?_
                rotate_left
                · (intro w hSw; (try dsimp only at hSw); go_simp; try with_reducible rfl)
                try simp only [Act.put, List.setIfInBounds_toArray, List.set_cons_zero, List.set_cons_succ]
                refine wpAnyH_take (i := 10) (v := ?_) rfl (by kernel_rfl) (by kernel_rfl) (by kernel_rfl) (fun _ _ _ h => h) (Or.inl ⟨by rfl, ?_⟩) (by assumption) ?_
                rotate_left
                · (intro w hSw; (try dsimp only at hSw); go_simp; try with_reducible rfl)
                try simp only [Act.put, List.setIfInBounds_toArray, List.set_cons_zero, List.set_cons_succ]
                refine wpAnyH_take (i := 11) (v := ?_) rfl (by kernel_rfl) (by kernel_rfl) (by kernel_rfl) (fun _ _ _ h => h) (Or.inl ⟨by rfl, ?_⟩) (by assumption) ?_
                rotate_left
                · (intro w hSw; (try dsimp only at hSw); go_simp; try with_reducible rfl)
                try simp only [Act.put, List.setIfInBounds_toArray, List.set_cons_zero, List.set_cons_succ]
                refine wpAnyH_take (i := 12) (v := ?_) rfl (by kernel_rfl) (by kernel_rfl) (by kernel_rfl) (fun _ _ _ h => h) (Or.inl ⟨by rfl, ?_⟩) (by assumption) ?_
                rotate_left
                · (intro w hSw; (try dsimp only at hSw); go_simp; try with_reducible rfl)
                try simp only [Act.put, List.setIfInBounds_toArray, List.set_cons_zero, List.set_cons_succ]
                refine wpAnyH_take (i := 13) (v := ?_) rfl (by kernel_rfl) (by kernel_rfl) (by kernel_rfl) (fun _ _ _ h => h) (Or.inl ⟨by rfl, ?_⟩) (by assumption) ?_
                rotate_left
                · (intro w hSw; (try dsimp only at hSw); go_simp; try with_reducible rfl)
                try simp only [Act.put, List.setIfInBounds_toArray, List.set_cons_zero, List.set_cons_succ]
                refine wpAnyH_take (i := 14) (v := ?_) rfl (by kernel_rfl) (by kernel_rfl) (by kernel_rfl) (fun _ _ _ h => h) (Or.inl ⟨by rfl, ?_⟩) (by assumption) ?_
                rotate_left
                · (intro w hSw; (try dsimp only at hSw); go_simp; try with_reducible rfl)
                try simp only [Act.put, List.setIfInBounds_toArray, List.set_cons_zero, List.set_cons_succ]
                refine wpAnyH_take (i := 15) (v := ?_) rfl (by kernel_rfl) (by kernel_rfl) (by kernel_rfl) (fun _ _ _ h => h) (Or.inl ⟨by rfl, ?_⟩) (by assumption) ?_
                rotate_left
                · (intro w hSw; (try dsimp only at hSw); go_simp; try with_reducible rfl)
                try simp only [Act.put, List.setIfInBounds_toArray, List.set_cons_zero, List.set_cons_succ]
                refine wpAnyH_take (i := 16) (v := ?_) rfl (by kernel_rfl) (by kernel_rfl) (by kernel_rfl) (fun _ _ _ h => h) (Or.inl ⟨by rfl, ?_⟩) (by assumption) ?_
                rotate_left
                · (intro w hSw; (try dsimp only at hSw); go_simp; try with_reducible rfl)
                try simp only [Act.put, List.setIfInBounds_toArray, List.set_cons_zero, List.set_cons_succ]
                refine wpAnyH_take (i := 17) (v := ?_) rfl (by kernel_rfl) (by kernel_rfl) (by kernel_rfl) (fun _ _ _ h => h) (Or.inl ⟨by rfl, ?_⟩) (by assumption) ?_
                rotate_left
                · (intro w hSw; (try dsimp only at hSw); go_simp; try with_reducible rfl)
                try simp only [Act.put, List.setIfInBounds_toArray, List.set_cons_zero, List.set_cons_succ]
                refine wpAnyH_take (i := 18) (v := ?_) rfl (by kernel_rfl) (by kernel_rfl) (by kernel_rfl) (fun _ _ _ h => h) (Or.inl ⟨by rfl, ?_⟩) (by assumption) ?_
                rotate_left
                · (intro w hSw; (try dsimp only at hSw); go_simp; try with_reducible rfl)
                try simp only [Act.put, List.setIfInBounds_toArray, List.set_cons_zero, List.set_cons_succ]
                refine wpAnyH_ready (rs := [9, 19, 22]) (by kernel_rfl) (by simp) ?_
                refine AllReadyH.cons rfl (fun K hK => ?_) ?_
                · go_simp
                  (go_at_call 32; refine (attribute_any (IsStr.mk at_.1) (by omega)).mono ?_; rintro e WA ⟨rfl, ba⟩; obtain ⟨hca, hfa⟩ := bcell ba; have hza := ba.size; (try simp only [World.size_alloc, hdrew] at hza hca hfa); (try have q1 : wr.heap.size < WA.heap.size := by omega); (try have q2 : wr.heap.size + 1 < WA.heap.size := by omega); (try have q3 : wr.heap.size ≠ WA.heap.size := by omega); (try have k1 := fun o => hca wr.heap.size o (by omega)); (try have k2 := fun o => hca (wr.heap.size + 1) o (by omega)); (try have l1 := fun o => hfa wr.heap.size o (by omega)); (try have l2 := fun o => hfa (wr.heap.size + 1) o (by omega)))
                  try go_wp2_with fail
                  refine hK.out _ _ ?_ (fun hNew => ?_)
                  · (try dsimp only)
                    repeat (first | assumption | with_reducible exact Below.refl _ _ | with_reducible refine Below.drew ?_ | with_reducible refine Below.alloc ?_ (by first | omega | (simp; omega) | simp) _ | with_reducible refine Below.setCell ?_ (by first | omega | (simp; omega) | simp) _ | with_reducible refine Below.trans ?_ (br.mono (by first | omega | (simp; omega) | simp)) | with_reducible refine Below.trans ?_ (ba.mono (by first | omega | (simp; omega) | simp)))
                  clear hK K
                  try simp only [Act.put, List.setIfInBounds_toArray, List.set_cons_zero, List.set_cons_succ]
                  clear hHeld
                  have hHeld := hNew
                  clear hNew
                  refine wpAnyH_ready (rs := [19, 22]) (by kernel_rfl) (by simp) ?_
                  refine AllReadyH.cons rfl (fun K hK => ?_) ?_
                  · go_simp
                    refine hK.out _ _ ?_ (fun hNew => ?_)
                    · (try dsimp only)
                      repeat (first | assumption | with_reducible exact Below.refl _ _ | with_reducible refine Below.drew ?_ | with_reducible refine Below.alloc ?_ (by first | omega | (simp; omega) | simp) _ | with_reducible refine Below.setCell ?_ (by first | omega | (simp; omega) | simp) _ | with_reducible refine Below.trans ?_ (br.mono (by first | omega | (simp; omega) | simp)) | with_reducible refine Below.trans ?_ (ba.mono (by first | omega | (simp; omega) | simp)))
                    clear hK K
                    try simp only [Act.put, List.setIfInBounds_toArray, List.set_cons_zero, List.set_cons_succ]
                    clear hHeld
                    have hHeld := hNew
                    clear hNew
                    refine wpAnyH_ready (rs := [20, 22]) (by kernel_rfl) (by simp) ?_
                    refine AllReadyH.cons rfl (fun K hK => ?_) ?_
                    · go_simp
                      (go_at_call 18; refine (RefRight_any (l := at_.2) (bytes_at ?_) ?_ ?_ ?_).mono ?_; (focus (repeat (first | with_reducible exact BytesAt.new rfl | with_reducible exact BytesAt.new (by simp) | with_reducible refine BytesAt.drew ?_ | with_reducible refine BytesAt.alloc ?_ _ | with_reducible refine BytesAt.below ?_ ba))); (focus exact grownCap_ge _ _ _ _); (focus exact grownCap_le_maxLen _ _ _ _ (by unfold maxLen; omega)); (focus omega); rintro e WR ⟨t, rfl, ht, br⟩; obtain rfl := ht.to; obtain ⟨hcr, hfr⟩ := bcell br; have hzr := br.size; (try simp only [World.size_alloc, hdrew] at hzr hcr hfr); (try have i1 := fun o => hcr wr.heap.size o (by omega)); (try have i2 := fun o => hcr (wr.heap.size + 1) o (by omega)); (try have i3 := fun o => hcr WA.heap.size o (by omega)); (try have j1 := fun o => hfr wr.heap.size o (by omega)); (try have j2 := fun o => hfr (wr.heap.size + 1) o (by omega)); (try have j3 := fun o => hfr WA.heap.size o (by omega)))
                      try go_wp2_with fail
                      refine hK.out _ _ ?_ (fun hNew => ?_)
                      · (try dsimp only)
                        repeat (first | assumption | with_reducible exact Below.refl _ _ | with_reducible refine Below.drew ?_ | with_reducible refine Below.alloc ?_ (by first | omega | (simp; omega) | simp) _ | with_reducible refine Below.setCell ?_ (by first | omega | (simp; omega) | simp) _ | with_reducible refine Below.trans ?_ (br.mono (by first | omega | (simp; omega) | simp)) | with_reducible refine Below.trans ?_ (ba.mono (by first | omega | (simp; omega) | simp)))
                      clear hK K
                      try simp only [Act.put, List.setIfInBounds_toArray, List.set_cons_zero, List.set_cons_succ]
                      clear hHeld
                      have hHeld := hNew
                      clear hNew
                      refine wpAnyH_take (i := 21) (v := ?_) rfl (by kernel_rfl) (by kernel_rfl) (by kernel_rfl) (fun _ _ _ h => h) (Or.inl ⟨by rfl, ?_⟩) (by assumption) ?_
                      rotate_left
                      · (intro w hSw; (try dsimp only at hSw); go_simp; try with_reducible rfl)
                      try simp only [Act.put, List.setIfInBounds_toArray, List.set_cons_zero, List.set_cons_succ]
                      refine wpAnyH_ready (rs := [22]) (by kernel_rfl) (by simp) ?_
                      refine AllReadyH.cons rfl (fun K hK => ?_) ?_
                      · go_simp
                        refine hK.out _ _ ?_ (fun hNew => ?_)
                        · (try dsimp only)
                          repeat (first | assumption | with_reducible exact Below.refl _ _ | with_reducible refine Below.drew ?_ | with_reducible refine Below.alloc ?_ (by first | omega | (simp; omega) | simp) _ | with_reducible refine Below.setCell ?_ (by first | omega | (simp; omega) | simp) _ | with_reducible refine Below.trans ?_ (br.mono (by first | omega | (simp; omega) | simp)) | with_reducible refine Below.trans ?_ (ba.mono (by first | omega | (simp; omega) | simp)))
                        clear hK K
                        try simp only [Act.put, List.setIfInBounds_toArray, List.set_cons_zero, List.set_cons_succ]
                        clear hHeld
                        have hHeld := hNew
                        clear hNew
                        refine wpAnyH_ready (rs := [23]) (by kernel_rfl) (by simp) ?_
                        refine AllReadyH.cons rfl (fun K hK => ?_) ?_
                        · go_simp
                          refine hK.out _ _ ?_ (fun hNew => ?_)
                          · (try dsimp only)
                            repeat (first | assumption | with_reducible exact Below.refl _ _ | with_reducible refine Below.drew ?_ | with_reducible refine Below.alloc ?_ (by first | omega | (simp; omega) | simp) _ | with_reducible refine Below.setCell ?_ (by first | omega | (simp; omega) | simp) _ | with_reducible refine Below.trans ?_ (br.mono (by first | omega | (simp; omega) | simp)) | with_reducible refine Below.trans ?_ (ba.mono (by first | omega | (simp; omega) | simp)))
                          clear hK K
                          try simp only [Act.put, List.setIfInBounds_toArray, List.set_cons_zero, List.set_cons_succ]
                          clear hHeld
                          have hHeld := hNew
                          clear hNew
                          refine wpAnyH_done (by kernel_rfl) ?_ _
                          refine NoPanic.normal ?_
                          go_wp2_with fail
                          go_meet
                          case rel =>
                            refine ⟨_, rfl, ?_, ?_, by first | omega | (simp; omega) | simp, by first | assumption | (simp only []; assumption)⟩
                            · go_simp
                            · go_simp
                        exact AllReadyH.nil
                      exact AllReadyH.nil
                    refine AllReadyH.cons rfl (fun K hK => ?_) ?_
                    · go_simp
                      refine hK.out _ _ ?_ (fun hNew => ?_)
                      · (try dsimp only)
                        repeat (first | assumption | with_reducible exact Below.refl _ _ | with_reducible refine Below.drew ?_ | with_reducible refine Below.alloc ?_ (by first | omega | (simp; omega) | simp) _ | with_reducible refine Below.setCell ?_ (by first | omega | (simp; omega) | simp) _ | with_reducible refine Below.trans ?_ (br.mono (by first | omega | (simp; omega) | simp)) | with_reducible refine Below.trans ?_ (ba.mono (by first | omega | (simp; omega) | simp)))
                      clear hK K
                      try simp only [Act.put, List.setIfInBounds_toArray, List.set_cons_zero, List.set_cons_succ]
                      clear hHeld
                      have hHeld := hNew
                      clear hNew
                      refine wpAnyH_ready (rs := [20]) (by kernel_rfl) (by simp) ?_
                      refine AllReadyH.cons rfl (fun K hK => ?_) ?_
                      · go_simp
                        (go_at_call 18; refine (RefRight_any (l := at_.2) (bytes_at ?_) ?_ ?_ ?_).mono ?_; (focus (repeat (first | with_reducible exact BytesAt.new rfl | with_reducible exact BytesAt.new (by simp) | with_reducible refine BytesAt.drew ?_ | with_reducible refine BytesAt.alloc ?_ _ | with_reducible refine BytesAt.below ?_ ba))); (focus exact grownCap_ge _ _ _ _); (focus exact grownCap_le_maxLen _ _ _ _ (by unfold maxLen; omega)); (focus omega); rintro e WR ⟨t, rfl, ht, br⟩; obtain rfl := ht.to; obtain ⟨hcr, hfr⟩ := bcell br; have hzr := br.size; (try simp only [World.size_alloc, hdrew] at hzr hcr hfr); (try have i1 := fun o => hcr wr.heap.size o (by omega)); (try have i2 := fun o => hcr (wr.heap.size + 1) o (by omega)); (try have i3 := fun o => hcr WA.heap.size o (by omega)); (try have j1 := fun o => hfr wr.heap.size o (by omega)); (try have j2 := fun o => hfr (wr.heap.size + 1) o (by omega)); (try have j3 := fun o => hfr WA.heap.size o (by omega)))
                        try go_wp2_with fail
                        refine hK.out _ _ ?_ (fun hNew => ?_)
                        · (try dsimp only)
                          repeat (first | assumption | with_reducible exact Below.refl _ _ | with_reducible refine Below.drew ?_ | with_reducible refine Below.alloc ?_ (by first | omega | (simp; omega) | simp) _ | with_reducible refine Below.setCell ?_ (by first | omega | (simp; omega) | simp) _ | with_reducible refine Below.trans ?_ (br.mono (by first | omega | (simp; omega) | simp)) | with_reducible refine Below.trans ?_ (ba.mono (by first | omega | (simp; omega) | simp)))
                        clear hK K
                        try simp only [Act.put, List.setIfInBounds_toArray, List.set_cons_zero, List.set_cons_succ]
                        clear hHeld
                        have hHeld := hNew
                        clear hNew
                        refine wpAnyH_take (i := 21) (v := ?_) rfl (by kernel_rfl) (by kernel_rfl) (by kernel_rfl) (fun _ _ _ h => h) (Or.inl ⟨by rfl, ?_⟩) (by assumption) ?_
                        rotate_left
                        · (intro w hSw; (try dsimp only at hSw); go_simp; try with_reducible rfl)
                        try simp only [Act.put, List.setIfInBounds_toArray, List.set_cons_zero, List.set_cons_succ]
                        refine wpAnyH_ready (rs := [23]) (by kernel_rfl) (by simp) ?_
                        refine AllReadyH.cons rfl (fun K hK => ?_) ?_
                        · go_simp
                          refine hK.out _ _ ?_ (fun hNew => ?_)
                          · (try dsimp only)
                            repeat (first | assumption | with_reducible exact Below.refl _ _ | with_reducible refine Below.drew ?_ | with_reducible refine Below.alloc ?_ (by first | omega | (simp; omega) | simp) _ | with_reducible refine Below.setCell ?_ (by first | omega | (simp; omega) | simp) _ | with_reducible refine Below.trans ?_ (br.mono (by first | omega | (simp; omega) | simp)) | with_reducible refine Below.trans ?_ (ba.mono (by first | omega | (simp; omega) | simp)))
                          clear hK K
                          try simp only [Act.put, List.setIfInBounds_toArray, List.set_cons_zero, List.set_cons_succ]
                          clear hHeld
                          have hHeld := hNew
                          clear hNew
                          refine wpAnyH_done (by kernel_rfl) ?_ _
                          refine NoPanic.normal ?_
                          go_wp2_with fail
                          go_meet
                          case rel =>
                            refine ⟨_, rfl, ?_, ?_, by first | omega | (simp; omega) | simp, by first | assumption | (simp only []; assumption)⟩
                            · go_simp
                            · go_simp
                        exact AllReadyH.nil
                      exact AllReadyH.nil
                    exact AllReadyH.nil
                  refine AllReadyH.cons rfl (fun K hK => ?_) ?_
                  · go_simp
                    refine hK.out _ _ ?_ (fun hNew => ?_)
                    · (try dsimp only)
                      repeat (first | assumption | with_reducible exact Below.refl _ _ | with_reducible refine Below.drew ?_ | with_reducible refine Below.alloc ?_ (by first | omega | (simp; omega) | simp) _ | with_reducible refine Below.setCell ?_ (by first | omega | (simp; omega) | simp) _ | with_reducible refine Below.trans ?_ (br.mono (by first | omega | (simp; omega) | simp)) | with_reducible refine Below.trans ?_ (ba.mono (by first | omega | (simp; omega) | simp)))
                    clear hK K
                    try simp only [Act.put, List.setIfInBounds_toArray, List.set_cons_zero, List.set_cons_succ]
                    clear hHeld
                    have hHeld := hNew
                    clear hNew
                    refine wpAnyH_ready (rs := [19]) (by kernel_rfl) (by simp) ?_
                    refine AllReadyH.cons rfl (fun K hK => ?_) ?_
                    · go_simp
                      refine hK.out _ _ ?_ (fun hNew => ?_)
                      · (try dsimp only)
                        repeat (first | assumption | with_reducible exact Below.refl _ _ | with_reducible refine Below.drew ?_ | with_reducible refine Below.alloc ?_ (by first | omega | (simp; omega) | simp) _ | with_reducible refine Below.setCell ?_ (by first | omega | (simp; omega) | simp) _ | with_reducible refine Below.trans ?_ (br.mono (by first | omega | (simp; omega) | simp)) | with_reducible refine Below.trans ?_ (ba.mono (by first | omega | (simp; omega) | simp)))
                      clear hK K
                      try simp only [Act.put, List.setIfInBounds_toArray, List.set_cons_zero, List.set_cons_succ]
                      clear hHeld
                      have hHeld := hNew
                      clear hNew
                      refine wpAnyH_ready (rs := [20]) (by kernel_rfl) (by simp) ?_
                      refine AllReadyH.cons rfl (fun K hK => ?_) ?_
                      · go_simp
                        (go_at_call 18; refine (RefRight_any (l := at_.2) (bytes_at ?_) ?_ ?_ ?_).mono ?_; (focus (repeat (first | with_reducible exact BytesAt.new rfl | with_reducible exact BytesAt.new (by simp) | with_reducible refine BytesAt.drew ?_ | with_reducible refine BytesAt.alloc ?_ _ | with_reducible refine BytesAt.below ?_ ba))); (focus exact grownCap_ge _ _ _ _); (focus exact grownCap_le_maxLen _ _ _ _ (by unfold maxLen; omega)); (focus omega); rintro e WR ⟨t, rfl, ht, br⟩; obtain rfl := ht.to; obtain ⟨hcr, hfr⟩ := bcell br; have hzr := br.size; (try simp only [World.size_alloc, hdrew] at hzr hcr hfr); (try have i1 := fun o => hcr wr.heap.size o (by omega)); (try have i2 := fun o => hcr (wr.heap.size + 1) o (by omega)); (try have i3 := fun o => hcr WA.heap.size o (by omega)); (try have j1 := fun o => hfr wr.heap.size o (by omega)); (try have j2 := fun o => hfr (wr.heap.size + 1) o (by omega)); (try have j3 := fun o => hfr WA.heap.size o (by omega)))
                        try go_wp2_with fail
                        refine hK.out _ _ ?_ (fun hNew => ?_)
                        · (try dsimp only)
                          repeat (first | assumption | with_reducible exact Below.refl _ _ | with_reducible refine Below.drew ?_ | with_reducible refine Below.alloc ?_ (by first | omega | (simp; omega) | simp) _ | with_reducible refine Below.setCell ?_ (by first | omega | (simp; omega) | simp) _ | with_reducible refine Below.trans ?_ (br.mono (by first | omega | (simp; omega) | simp)) | with_reducible refine Below.trans ?_ (ba.mono (by first | omega | (simp; omega) | simp)))
                        clear hK K
                        try simp only [Act.put, List.setIfInBounds_toArray, List.set_cons_zero, List.set_cons_succ]
                        clear hHeld
                        have hHeld := hNew
                        clear hNew
                        refine wpAnyH_take (i := 21) (v := ?_) rfl (by kernel_rfl) (by kernel_rfl) (by kernel_rfl) (fun _ _ _ h => h) (Or.inl ⟨by rfl, ?_⟩) (by assumption) ?_
                        rotate_left
                        · (intro w hSw; (try dsimp only at hSw); go_simp; try with_reducible rfl)
                        try simp only [Act.put, List.setIfInBounds_toArray, List.set_cons_zero, List.set_cons_succ]
                        refine wpAnyH_ready (rs := [23]) (by kernel_rfl) (by simp) ?_
                        refine AllReadyH.cons rfl (fun K hK => ?_) ?_
                        · go_simp
                          refine hK.out _ _ ?_ (fun hNew => ?_)
                          · (try dsimp only)
                            repeat (first | assumption | with_reducible exact Below.refl _ _ | with_reducible refine Below.drew ?_ | with_reducible refine Below.alloc ?_ (by first | omega | (simp; omega) | simp) _ | with_reducible refine Below.setCell ?_ (by first | omega | (simp; omega) | simp) _ | with_reducible refine Below.trans ?_ (br.mono (by first | omega | (simp; omega) | simp)) | with_reducible refine Below.trans ?_ (ba.mono (by first | omega | (simp; omega) | simp)))
                          clear hK K
                          try simp only [Act.put, List.setIfInBounds_toArray, List.set_cons_zero, List.set_cons_succ]
                          clear hHeld
                          have hHeld := hNew
                          clear hNew
                          refine wpAnyH_done (by kernel_rfl) ?_ _
                          refine NoPanic.normal ?_
                          go_wp2_with fail
                          go_meet
                          case rel =>
                            refine ⟨_, rfl, ?_, ?_, by first | omega | (simp; omega) | simp, by first | assumption | (simp only []; assumption)⟩
                            · go_simp
                            · go_simp
                        exact AllReadyH.nil
                      exact AllReadyH.nil
                    exact AllReadyH.nil
                  exact AllReadyH.nil
                refine AllReadyH.cons rfl (fun K hK => ?_) ?_
                · go_simp
                  refine hK.out _ _ ?_ (fun hNew => ?_)
                  · (try dsimp only)
                    repeat (first | assumption | with_reducible exact Below.refl _ _ | with_reducible refine Below.drew ?_ | with_reducible refine Below.alloc ?_ (by first | omega | (simp; omega) | simp) _ | with_reducible refine Below.setCell ?_ (by first | omega | (simp; omega) | simp) _ | with_reducible refine Below.trans ?_ (br.mono (by first | omega | (simp; omega) | simp)) | with_reducible refine Below.trans ?_ (ba.mono (by first | omega | (simp; omega) | simp)))
                  clear hK K
                  try simp only [Act.put, List.setIfInBounds_toArray, List.set_cons_zero, List.set_cons_succ]
                  clear hHeld
                  have hHeld := hNew
                  clear hNew
                  refine wpAnyH_ready (rs := [9, 22]) (by kernel_rfl) (by simp) ?_
                  refine AllReadyH.cons rfl (fun K hK => ?_) ?_
                  · go_simp
                    (go_at_call 32; refine (attribute_any (IsStr.mk at_.1) (by omega)).mono ?_; rintro e WA ⟨rfl, ba⟩; obtain ⟨hca, hfa⟩ := bcell ba; have hza := ba.size; (try simp only [World.size_alloc, hdrew] at hza hca hfa); (try have q1 : wr.heap.size < WA.heap.size := by omega); (try have q2 : wr.heap.size + 1 < WA.heap.size := by omega); (try have q3 : wr.heap.size ≠ WA.heap.size := by omega); (try have k1 := fun o => hca wr.heap.size o (by omega)); (try have k2 := fun o => hca (wr.heap.size + 1) o (by omega)); (try have l1 := fun o => hfa wr.heap.size o (by omega)); (try have l2 := fun o => hfa (wr.heap.size + 1) o (by omega)))
                    try go_wp2_with fail
                    refine hK.out _ _ ?_ (fun hNew => ?_)
                    · (try dsimp only)
                      repeat (first | assumption | with_reducible exact Below.refl _ _ | with_reducible refine Below.drew ?_ | with_reducible refine Below.alloc ?_ (by first | omega | (simp; omega) | simp) _ | with_reducible refine Below.setCell ?_ (by first | omega | (simp; omega) | simp) _ | with_reducible refine Below.trans ?_ (br.mono (by first | omega | (simp; omega) | simp)) | with_reducible refine Below.trans ?_ (ba.mono (by first | omega | (simp; omega) | simp)))
                    clear hK K
                    try simp only [Act.put, List.setIfInBounds_toArray, List.set_cons_zero, List.set_cons_succ]
                    clear hHeld
                    have hHeld := hNew
                    clear hNew
                    refine wpAnyH_ready (rs := [20, 22]) (by kernel_rfl) (by simp) ?_
                    refine AllReadyH.cons rfl (fun K hK => ?_) ?_
                    · go_simp
                      (go_at_call 18; refine (RefRight_any (l := at_.2) (bytes_at ?_) ?_ ?_ ?_).mono ?_; (focus (repeat (first | with_reducible exact BytesAt.new rfl | with_reducible exact BytesAt.new (by simp) | with_reducible refine BytesAt.drew ?_ | with_reducible refine BytesAt.alloc ?_ _ | with_reducible refine BytesAt.below ?_ ba))); (focus exact grownCap_ge _ _ _ _); (focus exact grownCap_le_maxLen _ _ _ _ (by unfold maxLen; omega)); (focus omega); rintro e WR ⟨t, rfl, ht, br⟩; obtain rfl := ht.to; obtain ⟨hcr, hfr⟩ := bcell br; have hzr := br.size; (try simp only [World.size_alloc, hdrew] at hzr hcr hfr); (try have i1 := fun o => hcr wr.heap.size o (by omega)); (try have i2 := fun o => hcr (wr.heap.size + 1) o (by omega)); (try have i3 := fun o => hcr WA.heap.size o (by omega)); (try have j1 := fun o => hfr wr.heap.size o (by omega)); (try have j2 := fun o => hfr (wr.heap.size + 1) o (by omega)); (try have j3 := fun o => hfr WA.heap.size o (by omega)))
                      try go_wp2_with fail
                      refine hK.out _ _ ?_ (fun hNew => ?_)
                      · (try dsimp only)
                        repeat (first | assumption | with_reducible exact Below.refl _ _ | with_reducible refine Below.drew ?_ | with_reducible refine Below.alloc ?_ (by first | omega | (simp; omega) | simp) _ | with_reducible refine Below.setCell ?_ (by first | omega | (simp; omega) | simp) _ | with_reducible refine Below.trans ?_ (br.mono (by first | omega | (simp; omega) | simp)) | with_reducible refine Below.trans ?_ (ba.mono (by first | omega | (simp; omega) | simp)))
                      clear hK K
                      try simp only [Act.put, List.setIfInBounds_toArray, List.set_cons_zero, List.set_cons_succ]
                      clear hHeld
                      have hHeld := hNew
                      clear hNew
                      refine wpAnyH_take (i := 21) (v := ?_) rfl (by kernel_rfl) (by kernel_rfl) (by kernel_rfl) (fun _ _ _ h => h) (Or.inl ⟨by rfl, ?_⟩) (by assumption) ?_
                      rotate_left
                      · (intro w hSw; (try dsimp only at hSw); go_simp; try with_reducible rfl)
                      try simp only [Act.put, List.setIfInBounds_toArray, List.set_cons_zero, List.set_cons_succ]
                      refine wpAnyH_ready (rs := [22]) (by kernel_rfl) (by simp) ?_
                      refine AllReadyH.cons rfl (fun K hK => ?_) ?_
                      · go_simp
                        refine hK.out _ _ ?_ (fun hNew => ?_)
                        · (try dsimp only)
                          repeat (first | assumption | with_reducible exact Below.refl _ _ | with_reducible refine Below.drew ?_ | with_reducible refine Below.alloc ?_ (by first | omega | (simp; omega) | simp) _ | with_reducible refine Below.setCell ?_ (by first | omega | (simp; omega) | simp) _ | with_reducible refine Below.trans ?_ (br.mono (by first | omega | (simp; omega) | simp)) | with_reducible refine Below.trans ?_ (ba.mono (by first | omega | (simp; omega) | simp)))
                        clear hK K
                        try simp only [Act.put, List.setIfInBounds_toArray, List.set_cons_zero, List.set_cons_succ]
                        clear hHeld
                        have hHeld := hNew
                        clear hNew
                        refine wpAnyH_ready (rs := [23]) (by kernel_rfl) (by simp) ?_
                        refine AllReadyH.cons rfl (fun K hK => ?_) ?_
                        · go_simp
                          refine hK.out _ _ ?_ (fun hNew => ?_)
                          · (try dsimp only)
                            repeat (first | assumption | with_reducible exact Below.refl _ _ | with_reducible refine Below.drew ?_ | with_reducible refine Below.alloc ?_ (by first | omega | (simp; omega) | simp) _ | with_reducible refine Below.setCell ?_ (by first | omega | (simp; omega) | simp) _ | with_reducible refine Below.trans ?_ (br.mono (by first | omega | (simp; omega) | simp)) | with_reducible refine Below.trans ?_ (ba.mono (by first | omega | (simp; omega) | simp)))
                          clear hK K
                          try simp only [Act.put, List.setIfInBounds_toArray, List.set_cons_zero, List.set_cons_succ]
                          clear hHeld
                          have hHeld := hNew
                          clear hNew
                          refine wpAnyH_done (by kernel_rfl) ?_ _
                          refine NoPanic.normal ?_
                          go_wp2_with fail
                          go_meet
                          case rel =>
                            refine ⟨_, rfl, ?_, ?_, by first | omega | (simp; omega) | simp, by first | assumption | (simp only []; assumption)⟩
                            · go_simp
                            · go_simp
                        exact AllReadyH.nil
                      exact AllReadyH.nil
                    refine AllReadyH.cons rfl (fun K hK => ?_) ?_
                    · go_simp
                      refine hK.out _ _ ?_ (fun hNew => ?_)
                      · (try dsimp only)
                        repeat (first | assumption | with_reducible exact Below.refl _ _ | with_reducible refine Below.drew ?_ | with_reducible refine Below.alloc ?_ (by first | omega | (simp; omega) | simp) _ | with_reducible refine Below.setCell ?_ (by first | omega | (simp; omega) | simp) _ | with_reducible refine Below.trans ?_ (br.mono (by first | omega | (simp; omega) | simp)) | with_reducible refine Below.trans ?_ (ba.mono (by first | omega | (simp; omega) | simp)))
                      clear hK K
                      try simp only [Act.put, List.setIfInBounds_toArray, List.set_cons_zero, List.set_cons_succ]
                      clear hHeld
                      have hHeld := hNew
                      clear hNew
                      refine wpAnyH_ready (rs := [20]) (by kernel_rfl) (by simp) ?_
                      refine AllReadyH.cons rfl (fun K hK => ?_) ?_
                      · go_simp
                        (go_at_call 18; refine (RefRight_any (l := at_.2) (bytes_at ?_) ?_ ?_ ?_).mono ?_; (focus (repeat (first | with_reducible exact BytesAt.new rfl | with_reducible exact BytesAt.new (by simp) | with_reducible refine BytesAt.drew ?_ | with_reducible refine BytesAt.alloc ?_ _ | with_reducible refine BytesAt.below ?_ ba))); (focus exact grownCap_ge _ _ _ _); (focus exact grownCap_le_maxLen _ _ _ _ (by unfold maxLen; omega)); (focus omega); rintro e WR ⟨t, rfl, ht, br⟩; obtain rfl := ht.to; obtain ⟨hcr, hfr⟩ := bcell br; have hzr := br.size; (try simp only [World.size_alloc, hdrew] at hzr hcr hfr); (try have i1 := fun o => hcr wr.heap.size o (by omega)); (try have i2 := fun o => hcr (wr.heap.size + 1) o (by omega)); (try have i3 := fun o => hcr WA.heap.size o (by omega)); (try have j1 := fun o => hfr wr.heap.size o (by omega)); (try have j2 := fun o => hfr (wr.heap.size + 1) o (by omega)); (try have j3 := fun o => hfr WA.heap.size o (by omega)))
                        try go_wp2_with fail
                        refine hK.out _ _ ?_ (fun hNew => ?_)
                        · (try dsimp only)
                          repeat (first | assumption | with_reducible exact Below.refl _ _ | with_reducible refine Below.drew ?_ | with_reducible refine Below.alloc ?_ (by first | omega | (simp; omega) | simp) _ | with_reducible refine Below.setCell ?_ (by first | omega | (simp; omega) | simp) _ | with_reducible refine Below.trans ?_ (br.mono (by first | omega | (simp; omega) | simp)) | with_reducible refine Below.trans ?_ (ba.mono (by first | omega | (simp; omega) | simp)))
                        clear hK K
                        try simp only [Act.put, List.setIfInBounds_toArray, List.set_cons_zero, List.set_cons_succ]
                        clear hHeld
                        have hHeld := hNew
                        clear hNew
                        refine wpAnyH_take (i := 21) (v := ?_) rfl (by kernel_rfl) (by kernel_rfl) (by kernel_rfl) (fun _ _ _ h => h) (Or.inl ⟨by rfl, ?_⟩) (by assumption) ?_
                        rotate_left
                        · (intro w hSw; (try dsimp only at hSw); go_simp; try with_reducible rfl)
                        try simp only [Act.put, List.setIfInBounds_toArray, List.set_cons_zero, List.set_cons_succ]
                        refine wpAnyH_ready (rs := [23]) (by kernel_rfl) (by simp) ?_
                        refine AllReadyH.cons rfl (fun K hK => ?_) ?_
                        · go_simp
                          refine hK.out _ _ ?_ (fun hNew => ?_)
                          · (try dsimp only)
                            repeat (first | assumption | with_reducible exact Below.refl _ _ | with_reducible refine Below.drew ?_ | with_reducible refine Below.alloc ?_ (by first | omega | (simp; omega) | simp) _ | with_reducible refine Below.setCell ?_ (by first | omega | (simp; omega) | simp) _ | with_reducible refine Below.trans ?_ (br.mono (by first | omega | (simp; omega) | simp)) | with_reducible refine Below.trans ?_ (ba.mono (by first | omega | (simp; omega) | simp)))
                          clear hK K
                          try simp only [Act.put, List.setIfInBounds_toArray, List.set_cons_zero, List.set_cons_succ]
                          clear hHeld
                          have hHeld := hNew
                          clear hNew
                          refine wpAnyH_done (by kernel_rfl) ?_ _
                          refine NoPanic.normal ?_
                          go_wp2_with fail
                          go_meet
                          case rel =>
                            refine ⟨_, rfl, ?_, ?_, by first | omega | (simp; omega) | simp, by first | assumption | (simp only []; assumption)⟩
                            · go_simp
                            · go_simp
                        exact AllReadyH.nil
                      exact AllReadyH.nil
                    exact AllReadyH.nil
                  refine AllReadyH.cons rfl (fun K hK => ?_) ?_
                  · go_simp
                    refine hK.out _ _ ?_ (fun hNew => ?_)
                    · (try dsimp only)
                      repeat (first | assumption | with_reducible exact Below.refl _ _ | with_reducible refine Below.drew ?_ | with_reducible refine Below.alloc ?_ (by first | omega | (simp; omega) | simp) _ | with_reducible refine Below.setCell ?_ (by first | omega | (simp; omega) | simp) _ | with_reducible refine Below.trans ?_ (br.mono (by first | omega | (simp; omega) | simp)) | with_reducible refine Below.trans ?_ (ba.mono (by first | omega | (simp; omega) | simp)))
                    clear hK K
                    try simp only [Act.put, List.setIfInBounds_toArray, List.set_cons_zero, List.set_cons_succ]
                    clear hHeld
                    have hHeld := hNew
                    clear hNew
                    refine wpAnyH_ready (rs := [9]) (by kernel_rfl) (by simp) ?_
                    refine AllReadyH.cons rfl (fun K hK => ?_) ?_
                    · go_simp
                      (go_at_call 32; refine (attribute_any (IsStr.mk at_.1) (by omega)).mono ?_; rintro e WA ⟨rfl, ba⟩; obtain ⟨hca, hfa⟩ := bcell ba; have hza := ba.size; (try simp only [World.size_alloc, hdrew] at hza hca hfa); (try have q1 : wr.heap.size < WA.heap.size := by omega); (try have q2 : wr.heap.size + 1 < WA.heap.size := by omega); (try have q3 : wr.heap.size ≠ WA.heap.size := by omega); (try have k1 := fun o => hca wr.heap.size o (by omega)); (try have k2 := fun o => hca (wr.heap.size + 1) o (by omega)); (try have l1 := fun o => hfa wr.heap.size o (by omega)); (try have l2 := fun o => hfa (wr.heap.size + 1) o (by omega)))
                      try go_wp2_with fail
                      refine hK.out _ _ ?_ (fun hNew => ?_)
                      · (try dsimp only)
                        repeat (first | assumption | with_reducible exact Below.refl _ _ | with_reducible refine Below.drew ?_ | with_reducible refine Below.alloc ?_ (by first | omega | (simp; omega) | simp) _ | with_reducible refine Below.setCell ?_ (by first | omega | (simp; omega) | simp) _ | with_reducible refine Below.trans ?_ (br.mono (by first | omega | (simp; omega) | simp)) | with_reducible refine Below.trans ?_ (ba.mono (by first | omega | (simp; omega) | simp)))
                      clear hK K
                      try simp only [Act.put, List.setIfInBounds_toArray, List.set_cons_zero, List.set_cons_succ]
                      clear hHeld
                      have hHeld := hNew
                      clear hNew
                      refine wpAnyH_ready (rs := [20]) (by kernel_rfl) (by simp) ?_
                      refine AllReadyH.cons rfl (fun K hK => ?_) ?_
                      · go_simp
                        (go_at_call 18; refine (RefRight_any (l := at_.2) (bytes_at ?_) ?_ ?_ ?_).mono ?_; (focus (repeat (first | with_reducible exact BytesAt.new rfl | with_reducible exact BytesAt.new (by simp) | with_reducible refine BytesAt.drew ?_ | with_reducible refine BytesAt.alloc ?_ _ | with_reducible refine BytesAt.below ?_ ba))); (focus exact grownCap_ge _ _ _ _); (focus exact grownCap_le_maxLen _ _ _ _ (by unfold maxLen; omega)); (focus omega); rintro e WR ⟨t, rfl, ht, br⟩; obtain rfl := ht.to; obtain ⟨hcr, hfr⟩ := bcell br; have hzr := br.size; (try simp only [World.size_alloc, hdrew] at hzr hcr hfr); (try have i1 := fun o => hcr wr.heap.size o (by omega)); (try have i2 := fun o => hcr (wr.heap.size + 1) o (by omega)); (try have i3 := fun o => hcr WA.heap.size o (by omega)); (try have j1 := fun o => hfr wr.heap.size o (by omega)); (try have j2 := fun o => hfr (wr.heap.size + 1) o (by omega)); (try have j3 := fun o => hfr WA.heap.size o (by omega)))
                        try go_wp2_with fail
                        refine hK.out _ _ ?_ (fun hNew => ?_)
                        · (try dsimp only)
                          repeat (first | assumption | with_reducible exact Below.refl _ _ | with_reducible refine Below.drew ?_ | with_reducible refine Below.alloc ?_ (by first | omega | (simp; omega) | simp) _ | with_reducible refine Below.setCell ?_ (by first | omega | (simp; omega) | simp) _ | with_reducible refine Below.trans ?_ (br.mono (by first | omega | (simp; omega) | simp)) | with_reducible refine Below.trans ?_ (ba.mono (by first | omega | (simp; omega) | simp)))
                        clear hK K
                        try simp only [Act.put, List.setIfInBounds_toArray, List.set_cons_zero, List.set_cons_succ]
                        clear hHeld
                        have hHeld := hNew
                        clear hNew
                        refine wpAnyH_take (i := 21) (v := ?_) rfl (by kernel_rfl) (by kernel_rfl) (by kernel_rfl) (fun _ _ _ h => h) (Or.inl ⟨by rfl, ?_⟩) (by assumption) ?_
                        rotate_left
                        · (intro w hSw; (try dsimp only at hSw); go_simp; try with_reducible rfl)
                        try simp only [Act.put, List.setIfInBounds_toArray, List.set_cons_zero, List.set_cons_succ]
                        refine wpAnyH_ready (rs := [23]) (by kernel_rfl) (by simp) ?_
                        refine AllReadyH.cons rfl (fun K hK => ?_) ?_
                        · go_simp
                          refine hK.out _ _ ?_ (fun hNew => ?_)
                          · (try dsimp only)
                            repeat (first | assumption | with_reducible exact Below.refl _ _ | with_reducible refine Below.drew ?_ | with_reducible refine Below.alloc ?_ (by first | omega | (simp; omega) | simp) _ | with_reducible refine Below.setCell ?_ (by first | omega | (simp; omega) | simp) _ | with_reducible refine Below.trans ?_ (br.mono (by first | omega | (simp; omega) | simp)) | with_reducible refine Below.trans ?_ (ba.mono (by first | omega | (simp; omega) | simp)))
                          clear hK K
                          try simp only [Act.put, List.setIfInBounds_toArray, List.set_cons_zero, List.set_cons_succ]
                          clear hHeld
                          have hHeld := hNew
                          clear hNew
                          refine wpAnyH_done (by kernel_rfl) ?_ _
                          refine NoPanic.normal ?_
                          go_wp2_with fail
                          go_meet
                          case rel =>
                            refine ⟨_, rfl, ?_, ?_, by first | omega | (simp; omega) | simp, by first | assumption | (simp only []; assumption)⟩
                            · go_simp
                            · go_simp
                        exact AllReadyH.nil
                      exact AllReadyH.nil
                    exact AllReadyH.nil
                  exact AllReadyH.nil
                refine AllReadyH.cons rfl (fun K hK => ?_) ?_
                · go_simp
                  refine hK.out _ _ ?_ (fun hNew => ?_)
                  · (try dsimp only)
                    repeat (first | assumption | with_reducible exact Below.refl _ _ | with_reducible refine Below.drew ?_ | with_reducible refine Below.alloc ?_ (by first | omega | (simp; omega) | simp) _ | with_reducible refine Below.setCell ?_ (by first | omega | (simp; omega) | simp) _ | with_reducible refine Below.trans ?_ (br.mono (by first | omega | (simp; omega) | simp)) | with_reducible refine Below.trans ?_ (ba.mono (by first | omega | (simp; omega) | simp)))
                  clear hK K
                  try simp only [Act.put, List.setIfInBounds_toArray, List.set_cons_zero, List.set_cons_succ]
                  clear hHeld
                  have hHeld := hNew
                  clear hNew
                  refine wpAnyH_ready (rs := [9, 19]) (by kernel_rfl) (by simp) ?_
                  refine AllReadyH.cons rfl (fun K hK => ?_) ?_
                  · go_simp
                    (go_at_call 32; refine (attribute_any (IsStr.mk at_.1) (by omega)).mono ?_; rintro e WA ⟨rfl, ba⟩; obtain ⟨hca, hfa⟩ := bcell ba; have hza := ba.size; (try simp only [World.size_alloc, hdrew] at hza hca hfa); (try have q1 : wr.heap.size < WA.heap.size := by omega); (try have q2 : wr.heap.size + 1 < WA.heap.size := by omega); (try have q3 : wr.heap.size ≠ WA.heap.size := by omega); (try have k1 := fun o => hca wr.heap.size o (by omega)); (try have k2 := fun o => hca (wr.heap.size + 1) o (by omega)); (try have l1 := fun o => hfa wr.heap.size o (by omega)); (try have l2 := fun o => hfa (wr.heap.size + 1) o (by omega)))
                    try go_wp2_with fail
                    refine hK.out _ _ ?_ (fun hNew => ?_)
                    · (try dsimp only)
                      repeat (first | assumption | with_reducible exact Below.refl _ _ | with_reducible refine Below.drew ?_ | with_reducible refine Below.alloc ?_ (by first | omega | (simp; omega) | simp) _ | with_reducible refine Below.setCell ?_ (by first | omega | (simp; omega) | simp) _ | with_reducible refine Below.trans ?_ (br.mono (by first | omega | (simp; omega) | simp)) | with_reducible refine Below.trans ?_ (ba.mono (by first | omega | (simp; omega) | simp)))
                    clear hK K
                    try simp only [Act.put, List.setIfInBounds_toArray, List.set_cons_zero, List.set_cons_succ]
                    clear hHeld
                    have hHeld := hNew
                    clear hNew
                    refine wpAnyH_ready (rs := [19]) (by kernel_rfl) (by simp) ?_
                    refine AllReadyH.cons rfl (fun K hK => ?_) ?_
                    · go_simp
                      refine hK.out _ _ ?_ (fun hNew => ?_)
                      · (try dsimp only)
                        repeat (first | assumption | with_reducible exact Below.refl _ _ | with_reducible refine Below.drew ?_ | with_reducible refine Below.alloc ?_ (by first | omega | (simp; omega) | simp) _ | with_reducible refine Below.setCell ?_ (by first | omega | (simp; omega) | simp) _ | with_reducible refine Below.trans ?_ (br.mono (by first | omega | (simp; omega) | simp)) | with_reducible refine Below.trans ?_ (ba.mono (by first | omega | (simp; omega) | simp)))
                      clear hK K
                      try simp only [Act.put, List.setIfInBounds_toArray, List.set_cons_zero, List.set_cons_succ]
                      clear hHeld
                      have hHeld := hNew
                      clear hNew
                      refine wpAnyH_ready (rs := [20]) (by kernel_rfl) (by simp) ?_
                      refine AllReadyH.cons rfl (fun K hK => ?_) ?_
                      · go_simp
                        (go_at_call 18; refine (RefRight_any (l := at_.2) (bytes_at ?_) ?_ ?_ ?_).mono ?_; (focus (repeat (first | with_reducible exact BytesAt.new rfl | with_reducible exact BytesAt.new (by simp) | with_reducible refine BytesAt.drew ?_ | with_reducible refine BytesAt.alloc ?_ _ | with_reducible refine BytesAt.below ?_ ba))); (focus exact grownCap_ge _ _ _ _); (focus exact grownCap_le_maxLen _ _ _ _ (by unfold maxLen; omega)); (focus omega); rintro e WR ⟨t, rfl, ht, br⟩; obtain rfl := ht.to; obtain ⟨hcr, hfr⟩ := bcell br; have hzr := br.size; (try simp only [World.size_alloc, hdrew] at hzr hcr hfr); (try have i1 := fun o => hcr wr.heap.size o (by omega)); (try have i2 := fun o => hcr (wr.heap.size + 1) o (by omega)); (try have i3 := fun o => hcr WA.heap.size o (by omega)); (try have j1 := fun o => hfr wr.heap.size o (by omega)); (try have j2 := fun o => hfr (wr.heap.size + 1) o (by omega)); (try have j3 := fun o => hfr WA.heap.size o (by omega)))
                        try go_wp2_with fail
                        refine hK.out _ _ ?_ (fun hNew => ?_)
                        · (try dsimp only)
                          repeat (first | assumption | with_reducible exact Below.refl _ _ | with_reducible refine Below.drew ?_ | with_reducible refine Below.alloc ?_ (by first | omega | (simp; omega) | simp) _ | with_reducible refine Below.setCell ?_ (by first | omega | (simp; omega) | simp) _ | with_reducible refine Below.trans ?_ (br.mono (by first | omega | (simp; omega) | simp)) | with_reducible refine Below.trans ?_ (ba.mono (by first | omega | (simp; omega) | simp)))
                        clear hK K
                        try simp only [Act.put, List.setIfInBounds_toArray, List.set_cons_zero, List.set_cons_succ]
                        clear hHeld
                        have hHeld := hNew
                        clear hNew
                        refine wpAnyH_take (i := 21) (v := ?_) rfl (by kernel_rfl) (by kernel_rfl) (by kernel_rfl) (fun _ _ _ h => h) (Or.inl ⟨by rfl, ?_⟩) (by assumption) ?_
                        rotate_left
                        · (intro w hSw; (try dsimp only at hSw); go_simp; try with_reducible rfl)
                        try simp only [Act.put, List.setIfInBounds_toArray, List.set_cons_zero, List.set_cons_succ]
                        refine wpAnyH_ready (rs := [23]) (by kernel_rfl) (by simp) ?_
                        refine AllReadyH.cons rfl (fun K hK => ?_) ?_
                        · go_simp
                          refine hK.out _ _ ?_ (fun hNew => ?_)
                          · (try dsimp only)
                            repeat (first | assumption | with_reducible exact Below.refl _ _ | with_reducible refine Below.drew ?_ | with_reducible refine Below.alloc ?_ (by first | omega | (simp; omega) | simp) _ | with_reducible refine Below.setCell ?_ (by first | omega | (simp; omega) | simp) _ | with_reducible refine Below.trans ?_ (br.mono (by first | omega | (simp; omega) | simp)) | with_reducible refine Below.trans ?_ (ba.mono (by first | omega | (simp; omega) | simp)))
                          clear hK K
                          try simp only [Act.put, List.setIfInBounds_toArray, List.set_cons_zero, List.set_cons_succ]
                          clear hHeld
                          have hHeld := hNew
                          clear hNew
                          refine wpAnyH_done (by kernel_rfl) ?_ _
                          refine NoPanic.normal ?_
                          go_wp2_with fail
                          go_meet
                          case rel =>
                            refine ⟨_, rfl, ?_, ?_, by first | omega | (simp; omega) | simp, by first | assumption | (simp only []; assumption)⟩
                            · go_simp
                            · go_simp
                        exact AllReadyH.nil
                      exact AllReadyH.nil
                    exact AllReadyH.nil
                  refine AllReadyH.cons rfl (fun K hK => ?_) ?_
                  · go_simp
                    refine hK.out _ _ ?_ (fun hNew => ?_)
                    · (try dsimp only)
                      repeat (first | assumption | with_reducible exact Below.refl _ _ | with_reducible refine Below.drew ?_ | with_reducible refine Below.alloc ?_ (by first | omega | (simp; omega) | simp) _ | with_reducible refine Below.setCell ?_ (by first | omega | (simp; omega) | simp) _ | with_reducible refine Below.trans ?_ (br.mono (by first | omega | (simp; omega) | simp)) | with_reducible refine Below.trans ?_ (ba.mono (by first | omega | (simp; omega) | simp)))
                    clear hK K
                    try simp only [Act.put, List.setIfInBounds_toArray, List.set_cons_zero, List.set_cons_succ]
                    clear hHeld
                    have hHeld := hNew
                    clear hNew
                    refine wpAnyH_ready (rs := [9]) (by kernel_rfl) (by simp) ?_
                    refine AllReadyH.cons rfl (fun K hK => ?_) ?_
                    · go_simp
                      (go_at_call 32; refine (attribute_any (IsStr.mk at_.1) (by omega)).mono ?_; rintro e WA ⟨rfl, ba⟩; obtain ⟨hca, hfa⟩ := bcell ba; have hza := ba.size; (try simp only [World.size_alloc, hdrew] at hza hca hfa); (try have q1 : wr.heap.size < WA.heap.size := by omega); (try have q2 : wr.heap.size + 1 < WA.heap.size := by omega); (try have q3 : wr.heap.size ≠ WA.heap.size := by omega); (try have k1 := fun o => hca wr.heap.size o (by omega)); (try have k2 := fun o => hca (wr.heap.size + 1) o (by omega)); (try have l1 := fun o => hfa wr.heap.size o (by omega)); (try have l2 := fun o => hfa (wr.heap.size + 1) o (by omega)))
                      try go_wp2_with fail
                      refine hK.out _ _ ?_ (fun hNew => ?_)
                      · (try dsimp only)
                        repeat (first | assumption | with_reducible exact Below.refl _ _ | with_reducible refine Below.drew ?_ | with_reducible refine Below.alloc ?_ (by first | omega | (simp; omega) | simp) _ | with_reducible refine Below.setCell ?_ (by first | omega | (simp; omega) | simp) _ | with_reducible refine Below.trans ?_ (br.mono (by first | omega | (simp; omega) | simp)) | with_reducible refine Below.trans ?_ (ba.mono (by first | omega | (simp; omega) | simp)))
                      clear hK K
                      try simp only [Act.put, List.setIfInBounds_toArray, List.set_cons_zero, List.set_cons_succ]
                      clear hHeld
                      have hHeld := hNew
                      clear hNew
                      refine wpAnyH_ready (rs := [20]) (by kernel_rfl) (by simp) ?_
                      refine AllReadyH.cons rfl (fun K hK => ?_) ?_
                      · go_simp
                        (go_at_call 18; refine (RefRight_any (l := at_.2) (bytes_at ?_) ?_ ?_ ?_).mono ?_; (focus (repeat (first | with_reducible exact BytesAt.new rfl | with_reducible exact BytesAt.new (by simp) | with_reducible refine BytesAt.drew ?_ | with_reducible refine BytesAt.alloc ?_ _ | with_reducible refine BytesAt.below ?_ ba))); (focus exact grownCap_ge _ _ _ _); (focus exact grownCap_le_maxLen _ _ _ _ (by unfold maxLen; omega)); (focus omega); rintro e WR ⟨t, rfl, ht, br⟩; obtain rfl := ht.to; obtain ⟨hcr, hfr⟩ := bcell br; have hzr := br.size; (try simp only [World.size_alloc, hdrew] at hzr hcr hfr); (try have i1 := fun o => hcr wr.heap.size o (by omega)); (try have i2 := fun o => hcr (wr.heap.size + 1) o (by omega)); (try have i3 := fun o => hcr WA.heap.size o (by omega)); (try have j1 := fun o => hfr wr.heap.size o (by omega)); (try have j2 := fun o => hfr (wr.heap.size + 1) o (by omega)); (try have j3 := fun o => hfr WA.heap.size o (by omega)))
                        try go_wp2_with fail
                        refine hK.out _ _ ?_ (fun hNew => ?_)
                        · (try dsimp only)
                          repeat (first | assumption | with_reducible exact Below.refl _ _ | with_reducible refine Below.drew ?_ | with_reducible refine Below.alloc ?_ (by first | omega | (simp; omega) | simp) _ | with_reducible refine Below.setCell ?_ (by first | omega | (simp; omega) | simp) _ | with_reducible refine Below.trans ?_ (br.mono (by first | omega | (simp; omega) | simp)) | with_reducible refine Below.trans ?_ (ba.mono (by first | omega | (simp; omega) | simp)))
                        clear hK K
                        try simp only [Act.put, List.setIfInBounds_toArray, List.set_cons_zero, List.set_cons_succ]
                        clear hHeld
                        have hHeld := hNew
                        clear hNew
                        refine wpAnyH_take (i := 21) (v := ?_) rfl (by kernel_rfl) (by kernel_rfl) (by kernel_rfl) (fun _ _ _ h => h) (Or.inl ⟨by rfl, ?_⟩) (by assumption) ?_
                        rotate_left
                        · (intro w hSw; (try dsimp only at hSw); go_simp; try with_reducible rfl)
                        try simp only [Act.put, List.setIfInBounds_toArray, List.set_cons_zero, List.set_cons_succ]
                        refine wpAnyH_ready (rs := [23]) (by kernel_rfl) (by simp) ?_
                        refine AllReadyH.cons rfl (fun K hK => ?_) ?_
                        · go_simp
                          refine hK.out _ _ ?_ (fun hNew => ?_)
                          · (try dsimp only)
                            repeat (first | assumption | with_reducible exact Below.refl _ _ | with_reducible refine Below.drew ?_ | with_reducible refine Below.alloc ?_ (by first | omega | (simp; omega) | simp) _ | with_reducible refine Below.setCell ?_ (by first | omega | (simp; omega) | simp) _ | with_reducible refine Below.trans ?_ (br.mono (by first | omega | (simp; omega) | simp)) | with_reducible refine Below.trans ?_ (ba.mono (by first | omega | (simp; omega) | simp)))
                          clear hK K
                          try simp only [Act.put, List.setIfInBounds_toArray, List.set_cons_zero, List.set_cons_succ]
                          clear hHeld
                          have hHeld := hNew
                          clear hNew
                          refine wpAnyH_done (by kernel_rfl) ?_ _
                          refine NoPanic.normal ?_
                          go_wp2_with fail
                          go_meet
                          case rel =>
                            refine ⟨_, rfl, ?_, ?_, by first | omega | (simp; omega) | simp, by first | assumption | (simp only []; assumption)⟩
                            · go_simp
                            · go_simp
                        exact AllReadyH.nil
                      exact AllReadyH.nil
                    exact AllReadyH.nil
                  exact AllReadyH.nil
                exact AllReadyH.nil
              case rest =>
                obtain ⟨g, rfl, h0, h1, hg, bc⟩ := hcut
                have hxc := (bc.block wo.heap.size (by omega)).trans hx2
                have cH := fun i => Lib.cell_of_heap hxc i
                have e0 := cH 0
                have e1 := cH 1
                have e2 := cH 2
                have e3 := cH 3
                have e4 := cH 4
                simp only [List.getElem?_toArray, List.getElem?_cons_zero, List.getElem?_cons_succ] at e0 e1 e2 e3 e4
                have hoc := own_below ho5 bc (Nat.le_refl _)
                have sc := bc.size
                have hni : NIs wc wc.heap.size (.mk 1 (wordL nd.name) acc [] []) [.int .i64 1, .string ⟨(wordL nd.name).toArray⟩, .slice A5 acc.length c5, .string ⟨#[]⟩, .slice none 0 0] :=
                  NIs.mk' hac5 (Rd.of_own hoc) (Nat.le_refl 0) (Nodes.nil _ _ none)
                clear hL1 hL2 hL3 hcb cH hc0 hc1' ga'
                go_wp2_with fail
                refine (Value3_any hni (by simp only [Nd.attrs]; omega)).mono ?_
                rintro e W3 ⟨rfl, b3⟩
                rw [show (Nd.mk 1 (wordL nd.name) acc [] []).attrs = acc from rfl]
                have hxd := (b3.block wo.heap.size (by omega)).trans hxc
                have B3 : Below wr.heap.size wr W3 := bc.trans (b3.mono sc)
                have hod := own_below ho5 B3 (Nat.le_refl _)
                have hgc : g < wc.heap.size := World.block_lt_of_cell? wc _ h0
                have s3 := b3.size
                have h0' : W3.cell? ⟨g, 0, none⟩ = some (.string ⟨(atrnL at_.1).toArray⟩) := (b3.cell (p := ⟨g, 0, none⟩) hgc).trans h0
                have h1' : W3.cell? ⟨g, 1, none⟩ = some (.string ⟨(right at_.2).toArray⟩) := (b3.cell (p := ⟨g, 1, none⟩) hgc).trans h1
                have e2' := Lib.cell_of_heap hxd 2
                have f2' := Lib.frozen_of_heap hxd 2
                simp only [List.getElem?_toArray, List.getElem?_cons_zero, List.getElem?_cons_succ] at e2'
                have hsW : W2.heap.size ≤ W3.heap.size := by omega
                clear e0 e1 e2 e3 e4 hni hxc h0 h1 hx2
                cases hv : valL acc (atrnL at_.1) with
                | some v =>
                  have HG2 := Lib.hid (show goodAt acc at_ = acc by simp [goodAt, hv])
                  clear hv
                  go_wp2
                  go_roundw
                  case rel => exact ⟨j + 1, acc, A5, c5, by go_num, by omega, by rw [HNX.out, HG2.out], by omega, hac5, hxd, hod, b5.trans (B3.mono hb5s), hsW⟩
                  case measure => simp [intOf]; omega
                | none =>
                  have HG2 := Lib.hid (show goodAt acc at_ = acc ++ [(atrnL at_.1, right at_.2)] by simp [goodAt, hv])
                  clear hv
                  go_wp2_with (at_builtin; go_must (refine wpList_push_at rfl _ _ _ rfl W2.heap.size rowAt A5 acc.length c5 _ rfl hod [.string ⟨(atrnL at_.1).toArray⟩, .string ⟨(right at_.2).toArray⟩] _ rfl rfl (by simp [Value.oneCell']) (by unfold maxLen; omega) (by omega) hsW ?_))
                  intro A6 c6 w6 hc6 ho6 hg6 _
                  have hxe : w6.heap[wo.heap.size]? = some (.cells #[.int .i64 1, .string ⟨(wordL nd.name).toArray⟩, .slice A5 acc.length c5, .string ⟨#[]⟩, .slice none 0 0] 28 (0, 0)) :=
                    (hg6.block wo.heap.size (by omega) (fun e => by have := own_ge hod _ e.symm; omega)).trans hxd
                  have e2'' := Lib.cell_of_heap hxe 2
                  have f2'' := Lib.frozen_of_heap hxe 2
                  simp only [List.getElem?_toArray, List.getElem?_cons_zero, List.getElem?_cons_succ] at e2''
                  have b6 : Below wo.heap.size W3 w6 := (Below.refl _ W3).grown hg6 (by omega) (fun k hk => by have := own_ge hod _ hk; omega)
                  have hxf : (w6.setCell ⟨wo.heap.size, 2, none⟩ (.slice A6 (acc.length + 1) c6)).heap[wo.heap.size]? = some (.cells #[.int .i64 1, .string ⟨(wordL nd.name).toArray⟩, .slice A6 (acc.length + 1) c6, .string ⟨#[]⟩, .slice none 0 0] 28 (0, 0)) := by
                    rw [heap_setCell_same w6 wo.heap.size 2 _ _ _ hxe]; simp
                  have b7 : Below wo.heap.size wo (w6.setCell ⟨wo.heap.size, 2, none⟩ (.slice A6 (acc.length + 1) c6)) := ((b5.trans (B3.mono hb5s)).trans b6).setCell (p := ⟨wo.heap.size, 2, none⟩) (Nat.le_refl _) _
                  have ho7 : (w6.setCell ⟨wo.heap.size, 2, none⟩ (.slice A6 (acc.length + 1) c6)).ownsRow W2.heap.size 40 2 (.slice A6 (acc.length + 1) c6) (acc.length + 1) (atrCells (acc ++ [(atrnL at_.1, right at_.2)])) := by
                    rw [atrCells_append]
                    exact ownsRow_setCell_below ho6 (by simp only []; omega) _
                  have s7 : W2.heap.size ≤ (w6.setCell ⟨wo.heap.size, 2, none⟩ (.slice A6 (acc.length + 1) c6)).heap.size := by rw [size_setCell]; exact Nat.le_trans hsW hg6.size
                  clear hg6 ho6 hod e2' f2' h0' h1' hxd
                  go_wp2
                  go_roundw
                  case rel => exact ⟨j + 1, acc ++ [(atrnL at_.1, right at_.2)], A6, c6, by go_num, by omega, by rw [HNX.out, HG2.out], by simp; omega, by simpa using hc6, by simpa using hxf, by simpa using ho7, b7, s7⟩
                  case measure => simp [intOf]; omega
            · have HX := Lib.hid (show good1 nd = .mk 1 (wordL nd.name) acc [] (goodL nd.kids) by rw [HG.out, hacc, List.take_of_length_le (by omega)]; rfl)
              clear hacc
              obtain ⟨A4, c4, gd4, hdc4, hkd4⟩ := hnx.kd
              have hsw : w.heap.size ≤ wr.heap.size := by have := b5.size; omega
              go_wp2_with fail
              refine (IH.out nd.kids hwt wr A4 c4 (hkd4.more hsw) hdc4 hs6 hs5).mono ?_
              rintro e W4 ⟨A7, c7, rfl, hc7, hn7, b7⟩
              have s7 := b7.size
              generalize goodL nd.kids = kd' at *
              have hx4 := (b7.block wo.heap.size (by omega)).trans hx2
              have cH := fun i => Lib.cell_of_heap hx4 i
              have e0 := cH 0
              have e1 := cH 1
              have e2 := cH 2
              have e3 := cH 3
              have e4 := cH 4
              have f4 := Lib.frozen_of_heap hx4 4
              simp only [List.getElem?_toArray, List.getElem?_cons_zero, List.getElem?_cons_succ] at e0 e1 e2 e3 e4
              have bz : ∀ u, Below wo.heap.size wo (W4.setCell ⟨wo.heap.size, 4, none⟩ u) := fun u => (b5.trans (b7.mono (by omega))).setCell (p := ⟨wo.heap.size, 4, none⟩) (Nat.le_refl _) u
              have hz : ∀ u, (W4.setCell ⟨wo.heap.size, 4, none⟩ u).heap.size = W4.heap.size := fun u => size_setCell _ _ _
              have hvo : ∀ b, (Value.slice A1 D.length c1).ownBlock = some b → b < wo.heap.size := fun b hb => (hown.lt b hb).2
              have hNx : ∀ u, NIsP (W4.setCell ⟨wo.heap.size, 4, none⟩ u) (Apart w.heap.size (W4.setCell ⟨wo.heap.size, 4, none⟩ u) (.slice A1 D.length c1)) (good1 nd)
                  [.int .i64 1, sv (wordL nd.name), .slice A5 acc.length c5, sv [], .slice A7 kd'.length c7] := by
                intro u
                have hfar : ∀ p : Addr, wo.heap.size + 1 ≤ p.block → (W4.setCell ⟨wo.heap.size, 4, none⟩ u).cell? p = W4.cell? p := fun p hp => World.cell?_setCell_other _ _ _ _ (fun e => by subst e; simp only [] at hp; omega)
                rw [HX.out]
                refine NIsP.mk' hac5 ?_ hc7 ?_
                · have hr := RdP.of_own ho5
                  refine ((hr.keep (fun p hp => b7.cell hp.2)).keep (fun p hp => hfar p (by omega))).more (fun b hb => ⟨by omega, by rw [hz]; omega, fun e => by have := hvo b e; omega⟩)
                · refine (hn7.keep (fun p hp => hfar p (by omega))).more (fun b hb => ⟨by omega, by rw [hz]; omega, fun e => by have := hvo b e; omega⟩)
              have hDx : ∀ u, NsIsP (W4.setCell ⟨wo.heap.size, 4, none⟩ u) (Apart w.heap.size (W4.setCell ⟨wo.heap.size, 4, none⟩ u) (.slice A1 D.length c1)) (D ++ [good1 nd]) (xs ++ [.int .i64 1, sv (wordL nd.name), .slice A5 acc.length c5, sv [], .slice A7 kd'.length c7]) :=
                fun u => (below_nodes hns (bz u)).append (NsIsP.single (hNx u))
              have hoz : ∀ u, (W4.setCell ⟨wo.heap.size, 4, none⟩ u).ownsRow w.heap.size 28 5 (.slice A1 D.length c1) D.length xs := fun u => own_below hown (bz u) (Nat.le_refl _)
              have hsU : ∀ u, w.heap.size ≤ (W4.setCell ⟨wo.heap.size, 4, none⟩ u).heap.size := fun u => by rw [hz]; omega
              have HBZ := Lib.hid bz
              clear hNx hns hown cH hx4 bz hz hn7 hkd4 hx2 ho5 hB0 gk gd4 hat hkd b7
              go_wp2_with (at_builtin; go_must (refine wpList_push_at rfl _ _ _ rfl w.heap.size rowNd A1 D.length c1 xs rfl (hoz _) [.int .i64 1, sv (wordL nd.name), .slice A5 acc.length c5, sv [], .slice A7 kd'.length c7] _ (by rw [size_setCell]; rfl) rfl (by simp [Value.oneCell', sv]) (by unfold maxLen; omega) (by omega) (hsU _) ?_))
              intro A6 c6 w6 hc6 ho6 hg6 hat6
              have hn6 := push_nodes (v' := .slice A6 (D.length + 1) c6) (hDx _) hg6 (fun g hg => by rw [size_setCell]; exact hat6 g hg)
              have b6 : Below w.heap.size w w6 := (hb.trans ((HBZ.out _).mono hsz)).grown hg6 (hsU _) (own_ge (hoz (.slice A7 kd'.length c7)))
              clear hg6 hat6 hDx hoz hsU e0 e1 e2 e3 e4 f4
              go_wp2
              go_roundw
              case rel => exact ⟨k + 1, D ++ [good1 nd], _, A6, c6, by simp, by go_num, by omega, by have := HKD.out; simp; omega, HDN.out.symm, by simpa using ho6, by simpa using hn6, b6, by simpa using hc6⟩
              case measure => simp [intOf]; omega
      · have hkk : ¬ nd.kind < 1 ∧ ¬ 3 < nd.kind ∧ ¬ nd.kind = 1 := by
          unfold gKind at hg
          split at hg <;> omega
        have HX := Lib.hid (show good1 nd = .mk nd.kind [] [] (right nd.text) [] by
          rw [good1_other nd hg]; unfold gKind; rw [if_neg (by omega)])
        obtain ⟨hk1, hk3, hkn⟩ := hkk
        have q1 : (nd.kind != 1) = true := by simp [hkn]
        have q2 : ((nd.kind : Int) < 1) = False := by simp [hk1]
        clear hg hkn q2
        have hcb := fun (w : World) => run_bytes_of_string (P := Try.prog) w 9 36 5 ⟨nd.text.toArray⟩ Try.underlying9 Try.underlying36 Try.underlying5
        go_wp2_with fail
        refine (RefRight_any (l := nd.text) (bytes_at (BytesAt.drew (BytesAt.new (by simp)))) (grownCap_ge _ _ _ _) (grownCap_le_maxLen _ _ _ _ (by unfold maxLen; omega)) (by omega)).mono ?_
        rintro e W4 ⟨t, rfl, ht, b4⟩
        obtain rfl := ht.to
        clear ht hcb
        simp only [hdrew, World.size_alloc] at b4
        have B4 : Below wr.heap.size wr W4 := ((((Below.refl wr.heap.size wr).alloc (Nat.le_refl _) _).alloc (by simp) _).drew).trans (b4.mono (by omega))
        have s4 := b4.size
        simp only [hdrew, World.size_alloc] at s4
        have hx4 : W4.heap[wr.heap.size]? = some (.cells #[.int .i64 nd.kind, .string ⟨#[]⟩, .slice none 0 0, .string ⟨#[]⟩, .slice none 0 0] 28 (0, 0)) := by
          rw [b4.block wr.heap.size (by omega), hdrew]
          exact (Below.heap_alloc _ _ wr.heap.size (by simp)).trans (heap_alloc_new _ _)
        have hle := right_length nd.text
        generalize right nd.text = tx at *
        have cH := fun i => Lib.cell_of_heap hx4 i
        have e0 := cH 0
        have e1 := cH 1
        have e2 := cH 2
        have e3 := cH 3
        have e4 := cH 4
        have f4 := Lib.frozen_of_heap hx4 3
        simp only [List.getElem?_toArray, List.getElem?_cons_zero, List.getElem?_cons_succ] at e0 e1 e2 e3 e4
        have bz : ∀ u, Below wr.heap.size wr (W4.setCell ⟨wr.heap.size, 3, none⟩ u) := fun u => B4.setCell (p := ⟨wr.heap.size, 3, none⟩) (Nat.le_refl _) u
        have hNx : ∀ u, NIsP (W4.setCell ⟨wr.heap.size, 3, none⟩ u) (Apart w.heap.size (W4.setCell ⟨wr.heap.size, 3, none⟩ u) (.slice A1 D.length c1)) (good1 nd)
            [.int .i64 nd.kind, sv [], .slice none 0 0, sv tx, .slice none 0 0] := by
          intro u
          rw [HX.out]
          exact NIsP.mk' (Nat.le_refl 0) (RdP.nil _ _ _ _) (Nat.le_refl 0) (NodesP.nil _ _ _)
        have hDx : ∀ u, NsIsP (W4.setCell ⟨wr.heap.size, 3, none⟩ u) (Apart w.heap.size (W4.setCell ⟨wr.heap.size, 3, none⟩ u) (.slice A1 D.length c1)) (D ++ [good1 nd]) (xs ++ [.int .i64 nd.kind, sv [], .slice none 0 0, sv tx, .slice none 0 0]) :=
          fun u => (below_nodes hns (bz u)).append (NsIsP.single (hNx u))
        have hoz : ∀ u, (W4.setCell ⟨wr.heap.size, 3, none⟩ u).ownsRow w.heap.size 28 5 (.slice A1 D.length c1) D.length xs := fun u => own_below hown (bz u) (Nat.le_refl _)
        have hsU : ∀ u, w.heap.size ≤ (W4.setCell ⟨wr.heap.size, 3, none⟩ u).heap.size := fun u => by rw [size_setCell]; omega
        have HBZ := Lib.hid bz
        clear hNx hns hown cH hx4 bz hB0 gk gn gt ga gd hat hkd b4 B4
        go_wp2_with (at_builtin; go_must (refine wpList_push_at rfl _ _ _ rfl w.heap.size rowNd A1 D.length c1 xs rfl (hoz _) [.int .i64 nd.kind, sv [], .slice none 0 0, sv tx, .slice none 0 0] _ (by rw [size_setCell]; rfl) rfl (by simp [Value.oneCell', sv]) (by unfold maxLen; omega) (by omega) (hsU _) ?_))
        intro A6 c6 w6 hc6 ho6 hg6 hat6
        have hn6 := push_nodes (v' := .slice A6 (D.length + 1) c6) (hDx _) hg6 (fun g hg => by rw [size_setCell]; exact hat6 g hg)
        have b6 : Below w.heap.size w w6 := (hb.trans ((HBZ.out _).mono hsz)).grown hg6 (hsU _) (own_ge (hoz (.string ⟨tx.toArray⟩)))
        clear hg6 hat6 hDx hoz hsU e0 e1 e2 e3 e4 f4
        go_wp2
        go_roundw
        case rel => exact ⟨k + 1, D ++ [good1 nd], _, A6, c6, by simp, by go_num, by omega, by have := HKD.out; simp; omega, HDN.out.symm, by simpa using ho6, by simpa using hn6, b6, by simpa using hc6⟩
        case measure => simp [intOf]; omega
    · have HE := Lib.hid (show D = goodM l by rw [hD, List.take_of_length_le (by omega)])
      have hN' := nodes_of_own hown hns
      have hS : ∀ b, (w.heap.size ≤ b ∧ b < wr.heap.size) → b < wr.heap.size := fun b hb => hb.2
      clear hD hown hns
      go_wp2_with fail
      refine (Merge_any hS hN' hc1 (by omega) (by rw [HE.out]; have := goodM_text hsm; omega)).mono ?_
      rintro e W2 ⟨A', c', rfl, h1, h2, h3⟩
      have HG := Lib.hid (show goodL l = mergeL D by rw [HE.out]; rfl)
      have s3 := h3.size
      have h2' : NodesP W2 (fun b => w.heap.size ≤ b ∧ b < W2.heap.size) A' (mergeL D).length (mergeL D) := h2.more (fun b hb => by rcases hb with hb | hb <;> omega)
      go_wp2
      go_ret
      exact ⟨A', c', by rw [HG.out]; rfl, by rw [HG.out]; exact h1, by rw [HG.out]; exact h2', hb.trans (h3.mono hsz)⟩

theorem good_any (l : List Nd) : GoodOk l := by
  suffices h : ∀ k, ∀ l, wtL l ≤ k → GoodOk l from h _ l (Nat.le_refl _)
  intro k
  induction k with
  | zero => intro l hl; exact good_step l (fun l' h => by omega)
  | succ k ih => intro l hl; exact good_step l (fun l' h => ih l' (by omega))


/-- strainerref03.Good -/
theorem Good_any {w : World} {A : Option Addr} {c : Nat} {l : List Nd} (hN : Nodes w w.heap.size A l.length l) (hc : l.length ≤ c) :
    Calls Try.prog 7 #[.slice A l.length c] w fun e w' => ∃ A' c', e = .returned (.slice A' (goodOf l).length c') ∧ (goodOf l).length ≤ c' ∧
      Nodes w' w'.heap.size A' (goodOf l).length (goodOf l) ∧ Below w.heap.size w w' := by
  have hsm := cutL_small l 40 (Nat.le_refl _)
  have hlen := cutL_length l 40
  go_enter Try.func7, Try.ntmps7
  go_wp2_with fail
  refine (Few_any hN hc).mono ?_
  rintro e W1 ⟨A1, c1, rfl, h1, h2, h3⟩
  have hN1 : Nodes W1 W1.heap.size A1 (cutL l 40).1.length (cutL l 40).1 := h2.lt (fun b hb => hb.2)
  have hdef : goodOf l = goodL (cutL l 40).1 := rfl
  have HD := Lib.hid hdef
  clear hdef h2
  generalize (cutL l 40).1 = m at *
  go_wp2_with fail
  refine (good_any m W1 A1 c1 hN1 h1 hsm (by omega)).mono ?_
  rintro e W2 ⟨A2, c2, rfl, h4, h5, h6⟩
  rw [← HD.out] at h4 h5 ⊢
  have B2 := bt h3 h6
  have h7 : Nodes W2 W2.heap.size A2 (goodOf l).length (goodOf l) := h5.lt (fun b hb => hb.2)
  go_wp2
  go_ret
  exact ⟨A2, c2, rfl, h4, h7, B2⟩
end Go.Proofs.Ytninjljkdbemkaa
