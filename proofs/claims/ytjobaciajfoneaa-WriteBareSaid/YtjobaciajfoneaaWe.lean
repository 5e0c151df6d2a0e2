/- The law WriteBare. -/
import Derived.Test.YtjobaciajfoneaaWep
import Derived.Test.YtjobaciajfoneaaOps
namespace Go.Proofs.Ytjobaciajfoneaa
open Go.RowKit

theorem strCells_at {l : List (List UInt8)} {k : Nat} (hk : k < l.length) : (strCells l)[k]? = some (sv l[k]) := by
  simp [strCells, hk]
theorem br_push {w6 W3 wr : World} {lo k c4 g1 g2 : Nat} {A4 : Option Addr} {v' : Value} {l : List Nd} {xs : List Value} {s : List UInt8} {T Ta Tn : TypeId} (hns : NsIsP wr (Apart lo wr (.slice A4 k c4)) l xs) (hown : wr.ownsRow lo T 5 (.slice A4 k c4) k xs) (hlo : lo ≤ wr.heap.size)
    (hg : W3.grownBy w6 (Value.slice A4 k c4).ownBlock) (hat : ∀ g, v'.ownBlock = some g → (Value.slice A4 k c4).ownBlock = some g ∨ W3.heap.size ≤ g) (b3 : Below wr.heap.size wr W3)
    (h1 : W3.heap[g1]? = some (.cells #[.string ⟨#[105, 100]⟩, .string ⟨s.toArray⟩] Ta (0, 0)))
    (h2 : W3.heap[g2]? = some (.cells #[.int .i64 2, .string ⟨#[]⟩, .slice none 0 0, .string (⟨s.toArray⟩ ++ ⟨#[120]⟩), .slice none 0 0] Tn (0, 0))) (hg1 : wr.heap.size ≤ g1) (hg2 : wr.heap.size ≤ g2) :
    NsIsP w6 (Apart lo w6 v') (l ++ [brN s]) (xs ++ [.int .i64 1, .string ⟨#[98]⟩, .slice (some ⟨g1, 0, none⟩) 1 1, .string ⟨#[]⟩, .slice (some ⟨g2, 0, none⟩) 1 1]) := by
  have hne : ∀ b, wr.heap.size ≤ b → (Value.slice A4 k c4).ownBlock ≠ some b := fun b hb e => by have := (hown.lt b e).2; omega
  have l1 : g1 < W3.heap.size := (Array.getElem?_eq_some_iff.1 h1).1
  have l2 : g2 < W3.heap.size := (Array.getElem?_eq_some_iff.1 h2).1
  have r1 : RdP W3 (Apart lo W3 (.slice A4 k c4)) 2 (some ⟨g1, 0, none⟩) 1 (atrCells [([105, 100], s)]) :=
    ⟨rfl, fun _ => ⟨_, rfl, ⟨by simp only []; omega, l1, hne _ hg1⟩, fun j u hu => World.news_of_block (fr := (0, 0)) h1 j u (by simpa [atrCells, sv] using hu)⟩⟩
  have hcat : (⟨s.toArray⟩ : ByteArray) ++ ⟨#[120]⟩ = ⟨(s ++ [120]).toArray⟩ := cat_str s [120]
  rw [hcat] at h2
  have r2 : NodesP W3 (Apart lo W3 (.slice A4 k c4)) (some ⟨g2, 0, none⟩) 1 [.mk 2 [] [] (s ++ [120]) []] := by
    refine ⟨[.int .i64 2, sv [], .slice none 0 0, sv (s ++ [120]), .slice none 0 0], ⟨rfl, fun _ => ⟨_, rfl, ⟨by simp only []; omega, l2, hne _ hg2⟩, fun j u hu => World.news_of_block (fr := (0, 0)) h2 j u (by simpa [sv] using hu)⟩⟩, ?_⟩
    exact NsIsP.single (NIsP.mk' (Nat.le_refl 0) (RdP.nil _ _ _ _) (Nat.le_refl 0) (NodesP.nil _ _ _))
  have hnew : NIsP W3 (Apart lo W3 (.slice A4 k c4)) (brN s) [.int .i64 1, .string ⟨#[98]⟩, .slice (some ⟨g1, 0, none⟩) 1 1, .string ⟨#[]⟩, .slice (some ⟨g2, 0, none⟩) 1 1] :=
    NIsP.mk' (Nat.le_refl 1) r1 (Nat.le_refl 1) r2
  exact push_nodes ((below_nodes hns b3).append (NsIsP.single hnew)) hg hat
theorem at3_0 (w : World) (X Y Z : Obj) : (((w.alloc X).alloc Y).alloc Z).drew.heap[w.heap.size]? = some X := by
  show (((w.alloc X).alloc Y).alloc Z).heap[w.heap.size]? = some X
  rw [Below.heap_alloc _ _ _ (by simp; omega), Below.heap_alloc _ _ _ (by simp)]
  exact heap_alloc_new w X
theorem at3_1 (w : World) (X Y Z : Obj) : (((w.alloc X).alloc Y).alloc Z).drew.heap[w.heap.size + 1]? = some Y := by
  show (((w.alloc X).alloc Y).alloc Z).heap[w.heap.size + 1]? = some Y
  rw [Below.heap_alloc _ _ _ (by simp)]
  have := heap_alloc_new (w.alloc X) Y
  simpa using this
theorem heap_at (w : World) (o : Obj) (g : Nat) (h : g = w.heap.size) : (w.alloc o).heap[g]? = some o := by subst h; exact heap_alloc_new w o
set_option maxHeartbeats 8000000 in
set_option maxRecDepth 100000 in
/-- strainerlaw04.WriteBare -/
theorem WriteBare_calls {w : World} {A0 : Option Addr} {n0 c0 : Nat} {l0 : List (List UInt8)} (hl0 : Rd w w.heap.size 1 A0 n0 (strCells l0)) (hlc : n0 ≤ c0) (hbd : ∀ s ∈ l0, s.length ≤ 140737488351232) :
    Calls Try.prog 3 #[.slice A0 n0 c0] w fun e w' => e = .returned (.bool true) ∧ Below w.heap.size w w' := by
  have hln : l0.length = n0 := by have := hl0.len; simpa [strCells] using this
  subst hln
  go_enter Try.func3, Try.ntmps3
  go_wp2_with fail
  go_loopw [3, 4] (fun v i wr => ∃ (k : Nat) (xs : List Value) (A4 : Option Addr) (c4 : Nat), v = .slice A4 k c4 ∧ i = .int .i64 k ∧ k ≤ l0.length ∧ k ≤ 6 ∧ k ≤ c4 ∧
      wr.ownsRow w.heap.size 28 5 (.slice A4 k c4) k xs ∧ NsIsP wr (Apart w.heap.size wr (.slice A4 k c4)) ((l0.take k).map brN) xs ∧ Below w.heap.size w wr) (fun _ i _ => l0.length - (intOf i).toNat)
  case atStart => exact ⟨0, [], none, 0, rfl, rfl, Nat.zero_le _, Nat.zero_le _, Nat.le_refl _, World.ownsRow_nil _ _ _ _, by simpa using NsIsP.nil _ _, Below.refl _ _⟩
  case round =>
    obtain ⟨k, xs, A4, c4, rfl, rfl, hk, hk6, hc4, hown, hns, hb⟩ := hrel
    have hsz := hb.size
    by_cases hlt : k < l0.length ∧ k < 6
    · obtain ⟨hlt, hlt6⟩ := hlt
      obtain ⟨a, u, rfl, hab, hu, hca⟩ := hl0.at_ hlt
      rw [strCells_at hlt] at hu
      injection hu with hu
      subst hu
      have HTK := Lib.hid (show (l0.take (k + 1)).map brN = (l0.take k).map brN ++ [brN l0[k]] by rw [List.take_succ_eq_append_getElem hlt, List.map_append]; rfl)
      have HMEM := Lib.hid (List.getElem_mem hlt)
      generalize l0[k] = s at *
      have hL : ∀ w', Below w.heap.size w w' → w'.cell? (a.add k) = some (sv s) := fun w' hw => by
        rw [hw.cell (by rw [block_add]; omega)]; exact hca
      unfold sv at hL
      have hbs : s.length ≤ 140737488351232 := hbd _ HMEM.out
      have z1 : ¬ 9223372036854775807 < s.length + 1 := by omega
      go_upto_region 5 with fail
      go_region_held3 (fun w' => Below w.heap.size w w')
        (repeat (first
          | assumption
          | with_reducible refine Below.drew ?_
          | with_reducible refine Below.alloc ?_ (by first | omega | (simp; omega) | simp) _
          | with_reducible refine Below.grown ?_ hg6 (by first | omega | (simp; omega) | simp) (own_ge hown)))
        ((refine step_push (by rfl) _ _ _ (by rfl) w.heap.size rowNd A4 k c4 xs (by rfl) (own_below hown (by repeat (first | with_reducible exact Below.refl _ _ | with_reducible refine Below.drew ?_ | with_reducible refine Below.alloc ?_ (by first | omega | (simp; omega) | simp) _)) (Nat.le_refl _)) _ 1 _ (by rfl) (heap_at _ _ _ (by simp)) (by rfl) (by simp [Value.oneCell']) (by unfold maxLen; omega) (by omega) (by simp; omega) ?_; intro A6 c6 w6 hc6 ho6 hg6 hat6))
      all_goals
        have hn6 := br_push (v' := .slice A6 (k + 1) c6) hns hown hsz hg6 hat6 (by repeat (first | with_reducible exact Below.refl _ _ | with_reducible refine Below.drew ?_ | with_reducible refine Below.alloc ?_ (by first | omega | (simp; omega) | simp) _))
          (by first | exact at3_0 _ _ _ _ | exact at3_1 _ _ _ _) (by first | exact at3_0 _ _ _ _ | exact at3_1 _ _ _ _) (by first | exact Nat.le_refl _ | exact Nat.le_succ _) (by first | exact Nat.le_refl _ | exact Nat.le_succ _)
        rw [← HTK.out] at hn6
        rename Below w.heap.size w w6 => b6
        clear hg6 hat6 hns hown
        go_wp2
        go_roundw
        case rel => exact ⟨k + 1, _, A6, c6, by simp, by go_num, by omega, by omega, by omega, ho6, hn6, b6⟩
        case measure => simp [intOf]; omega
    · have hL : ((l0.take k).map brN).length = k := by rw [List.length_map, List.length_take]; omega
      have hL6 : (l0.take k).length ≤ 6 := by rw [List.length_take]; omega
      have hN := nodes_of_own hown hns
      have hcnt := br_count (l0.take k) hL6
      have hwt := goodOf_text ((l0.take k).map brN)
      have hgl := goodOf_length ((l0.take k).map brN)
      have hN' : Nodes wr wr.heap.size A4 ((l0.take k).map brN).length ((l0.take k).map brN) := by rw [hL]; exact hN.lt (fun b hb => hb.2)
      have HL := Lib.hid hL
      clear hL hns hown hN
      generalize (l0.take k).map brN = D at *
      rw [← HL.out] at hc4 ⊢
      have hcase : (¬ D.length < l0.length) ∨ (D.length < l0.length ∧ ¬ D.length < 6) := by rw [HL.out]; omega
      rcases hcase with hq | ⟨hq1, hq2⟩
      all_goals
        go_wp2_with fail
        refine (Good_any hN' hc4).mono ?_
        rintro e W1 ⟨A1, c1, rfl, hc1, hn1, b1⟩
        have B1 := hb.trans (b1.mono hsz)
        generalize goodOf D = g at *
        clear hN' b1
        go_wp2_with fail
        refine (WText_any hn1 hc1 (by omega)).mono ?_
        rintro e W2 ⟨rfl, b2⟩
        have B2 := bt B1 b2
        have HT : IsStr ⟨(textL g).toArray⟩ (textL g) := IsStr.mk _
        have HCNT := Lib.hid hcnt
        clear b2 hn1 hcnt B1
        generalize textL g = t at *
        have hts := HT.size
        generalize (⟨t.toArray⟩ : ByteArray) = st at *
        have HTS := Lib.hid hts
        clear hts
        go_wp2
        go_loop [6, 7] (fun n i => ∃ j : Nat, n = .int .i64 (cnt60 (t.take j)) ∧ i = .int .i64 j ∧ j ≤ st.size) (fun _ i => st.size - (intOf i).toNat)
        case atStart => exact ⟨0, rfl, rfl, Nat.zero_le _⟩
        case round =>
          obtain ⟨j, rfl, rfl, hj⟩ := hrel
          by_cases hlt : j < st.size
          · have hjl : j < t.length := by rw [← HTS.out]; exact hlt
            have e1 := s_byte HT j hlt hjl
            have hcn := cnt60_next hjl
            have hbnd : cnt60 (t.take j) ≤ j := by
              unfold cnt60
              have h1 := List.length_filter_le (fun c => c == 60) (t.take j)
              have h2 := List.length_take_le j t
              omega
            rw [← e1] at hcn
            generalize hcc : st[j] = c at *
            clear e1
            by_cases hc : c = 60
            · have q1 : ((c.toNat : Int) == 60) = true := by rw [hc]; rfl
              have HCN := Lib.hid (show cnt60 (t.take (j + 1)) = cnt60 (t.take j) + 1 by rw [hcn, if_pos hc])
              clear hcn hc
              generalize cnt60 (t.take j) = m at *
              go_wp2
              go_round
              case rel => exact ⟨j + 1, by rw [HCN.out]; go_num, by go_num, by omega⟩
              case measure => simp [intOf]; omega
            · have q1 : ((c.toNat : Int) == 60) = false := by
                rw [beq_eq_false_iff_ne]
                intro e
                exact hc (UInt8.toNat_inj.1 (by have : (60 : UInt8).toNat = 60 := rfl; omega))
              have HCN := Lib.hid (show cnt60 (t.take (j + 1)) = cnt60 (t.take j) by rw [hcn, if_neg hc, Nat.add_zero])
              clear hcn hc
              go_wp2
              go_round
              case rel => exact ⟨j + 1, by rw [HCN.out], by go_num, by omega⟩
              case measure => simp [intOf]; omega
          · have hq1 : ((cnt60 (t.take j) : Int) == 2 * (g.length : Int)) = true := by
              rw [List.take_of_length_le (by rw [← HTS.out]; omega), HCNT.out]
              simp
            generalize cnt60 (t.take j) = m at *
            go_wp2_with fail
            refine (lives04 _).mono ?_
            rintro e W5 ⟨rfl, b5⟩
            go_wp2
            go_ret
            exact ⟨rfl, bt B2 b5⟩
end Go.Proofs.Ytjobaciajfoneaa
