/- strainerref03: Merge. -/
import Derived.Test.YtninjljkdbemkaaG5p
import Derived.Test.YtninjljkdbemkaaG3
import Derived.StillTailTactics
namespace Go.Proofs.Ytninjljkdbemkaa
open Go.RowKit

theorem NodesP.cells {w : World} {S : Nat → Prop} {A : Option Addr} {n : Nat} {l : List Nd} (h : NodesP w S A n l) {k : Nat} (hk : k < n) (hk' : k < l.length) : ∃ a A1 n1 c1 A2 n2 c2, A = some a ∧ S (a.add (k * 5)).block ∧
    w.cell? (a.add (k * 5)) = some (.int .i64 l[k].kind) ∧ w.cell? ⟨(a.add (k * 5)).block, (a.add (k * 5)).off + 1, none⟩ = some (.string ⟨l[k].name.toArray⟩) ∧
    w.cell? ⟨(a.add (k * 5)).block, (a.add (k * 5)).off + 2, none⟩ = some (.slice A1 n1 c1) ∧ w.cell? ⟨(a.add (k * 5)).block, (a.add (k * 5)).off + 3, none⟩ = some (.string ⟨l[k].text.toArray⟩) ∧
    w.cell? ⟨(a.add (k * 5)).block, (a.add (k * 5)).off + 4, none⟩ = some (.slice A2 n2 c2) ∧ NIsP w S l[k] [.int .i64 l[k].kind, sv l[k].name, .slice A1 n1 c1, sv l[k].text, .slice A2 n2 c2] := by
  obtain ⟨xs, h1, h2⟩ := h
  have hl := h2.len
  obtain ⟨a, rfl, hb, hc⟩ := h1.2 (by intro e; subst e; simp at hl; omega)
  obtain ⟨cs, h3, h4⟩ := NsIsP.at_ h2 hk'
  have h5 := h3
  generalize l[k] = nd at h3 h5 ⊢
  cases nd with
  | mk kd nm ats tx kids =>
    simp only [NIsP] at h3
    obtain ⟨A1, n1, c1, A2, n2, c2, ys, rfl, g1, g2, g3, g4, g5⟩ := h3
    have hh : ∀ j (hj : 0 < j), (⟨(a.add (k * 5)).block, (a.add (k * 5)).off + j, none⟩ : Addr) = a.add (k * 5 + j) := fun j hj => by rw [← add_add, add_pos _ _ hj]
    refine ⟨a, A1, n1, c1, A2, n2, c2, rfl, by rw [block_add]; exact hb, hc _ _ (by rw [← Nat.add_zero (k * 5), h4 0 (by omega)]; rfl), ?_, ?_, ?_, ?_, h5⟩
    · rw [hh 1 (by omega)]; exact hc _ _ (by rw [h4 1 (by omega)]; rfl)
    · rw [hh 2 (by omega)]; exact hc _ _ (by rw [h4 2 (by omega)]; rfl)
    · rw [hh 3 (by omega)]; exact hc _ _ (by rw [h4 3 (by omega)]; rfl)
    · rw [hh 4 (by omega)]; exact hc _ _ (by rw [h4 4 (by omega)]; rfl)

/-- the last node's cells, of an own row -/
theorem NsIsP.last {w : World} {S : Nat → Prop} {D : List Nd} {o : Nd} {xs : List Value} (h : NsIsP w S (D ++ [o]) xs) : ∃ ys A1 n1 c1 A2 n2 c2, xs = ys ++ [.int .i64 o.kind, sv o.name, .slice A1 n1 c1, sv o.text, .slice A2 n2 c2] ∧ NsIsP w S D ys ∧ ys.length = D.length * 5 ∧
    ∀ t, NIsP w S (o.withText t) [.int .i64 o.kind, sv o.name, .slice A1 n1 c1, sv t, .slice A2 n2 c2] := by
  induction D generalizing xs with
  | nil =>
    simp only [List.nil_append, NsIsP] at h
    obtain ⟨a, b, rfl, h1, rfl⟩ := h
    cases o with
    | mk k nm ats tx kids =>
      simp only [NIsP] at h1
      obtain ⟨A1, n1, c1, A2, n2, c2, ys, rfl, g1, g2, g3, g4, g5⟩ := h1
      refine ⟨[], A1, n1, c1, A2, n2, c2, by simp [Nd.kind, Nd.name, Nd.text], NsIsP.nil _ _, rfl, fun t => ?_⟩
      simp only [Nd.withText, NIsP, Nd.kind, Nd.name]
      exact ⟨A1, n1, c1, A2, n2, c2, ys, rfl, g1, g2, g3, g4, g5⟩
  | cons d D ih =>
    simp only [List.cons_append, NsIsP] at h
    obtain ⟨a, b, rfl, h1, h2⟩ := h
    obtain ⟨ys, A1, n1, c1, A2, n2, c2, rfl, g1, g2, g3⟩ := ih h2
    refine ⟨a ++ ys, A1, n1, c1, A2, n2, c2, by rw [List.append_assoc], ?_, by rw [List.length_append, g2, h1.five, List.length_cons]; omega, g3⟩
    simp only [NsIsP]
    exact ⟨a, ys, rfl, h1, g1⟩

theorem str_cat (a b : List UInt8) : (⟨a.toArray⟩ : ByteArray) ++ ⟨b.toArray⟩ = ⟨(a ++ b).toArray⟩ := by
  apply ByteArray.ext
  simp

set_option maxHeartbeats 8000000 in
set_option maxRecDepth 100000 in
/-- strainerref03.Merge -/
theorem Merge_any {w : World} {S : Nat → Prop} {A : Option Addr} {c : Nat} {l : List Nd} (hS : ∀ b, S b → b < w.heap.size) (hN : NodesP w S A l.length l) (hc : l.length ≤ c) (hl : l.length ≤ 1000) (ht : textSum l ≤ 1000000) :
    Calls Try.prog 33 #[.slice A l.length c] w fun e w' => ∃ A' c', e = .returned (.slice A' (mergeL l).length c') ∧ (mergeL l).length ≤ c' ∧
      NodesP w' (fun b => S b ∨ (w.heap.size ≤ b ∧ b < w'.heap.size)) A' (mergeL l).length (mergeL l) ∧ Below w.heap.size w w' := by
  go_enter Try.func33, Try.ntmps33
  go_wp2
  go_loopw [3, 4] (fun v i wr => ∃ (k : Nat) (D : List Nd) (xs : List Value) (A1 : Option Addr) (c1 : Nat), v = .slice A1 D.length c1 ∧ i = .int .i64 k ∧ k ≤ l.length ∧ D = (l.take k).foldl mergeStep [] ∧ D.length ≤ k ∧ textSum D ≤ textSum (l.take k) ∧
    wr.ownsRow w.heap.size 28 5 (.slice A1 D.length c1) D.length xs ∧ NsIsP wr S D xs ∧ Below w.heap.size w wr ∧ D.length ≤ c1)
    (fun _ i _ => l.length - (intOf i).toNat)
  case atStart => exact ⟨0, [], [], none, 0, rfl, rfl, Nat.zero_le _, rfl, Nat.zero_le _, Nat.zero_le _, World.ownsRow_nil _ _ _ _, NsIsP.nil _ _, Below.refl _ _, Nat.le_refl _⟩
  case round =>
    obtain ⟨k, D, xs, A1, c1, rfl, rfl, hk, hD, hDk, htD, hown, hns, hb, hc1⟩ := hrel
    have hsz := hb.size
    by_cases hlt : k < l.length
    · obtain ⟨a, A2, n2, c2, A3, n3, c3, rfl, hSa, g0, g1, g2, g3, g4, hnx⟩ := (hN.keep (fun p hp => hb.cell (hS _ hp))).cells hlt hlt
      have HNX := Lib.hid (mergeL_next hlt)
      have htx : textSum (l.take (k + 1)) = textSum (l.take k) + l[k].text.length := by rw [List.take_succ_eq_append_getElem hlt, textSum_append]; simp [textSum]
      have htl : textSum (l.take (k + 1)) ≤ textSum l := by
        conv => rhs; rw [← List.take_append_drop (k + 1) l, textSum_append]
        omega
      rw [← hD] at HNX
      have hts := textSum_step D l[k]
      have hls := mergeStep_length D l[k]
      have HTS := Lib.hid (show textSum (mergeStep D l[k]) ≤ textSum (l.take (k + 1)) by omega)
      have HLS := Lib.hid (show (mergeStep D l[k]).length ≤ k + 1 by omega)
      clear hts hls hD
      generalize l[k] = nd at *
      have hb4 : textSum D + nd.text.length ≤ 1000000 := by omega
      have HTX := Lib.hid htx
      clear htx
      by_cases hk2 : nd.kind = 2
      · have q2 : (nd.kind == 2) = true := by simp [hk2]
        by_cases he : nd.text = []
        · have HM := Lib.hid (mergeStep_skip (D := D) hk2 he)
          have he' : nd.text.isEmpty = true := by rw [he]; rfl
          clear he hk2
          go_wp2
          go_roundw
          case rel => exact ⟨k + 1, mergeStep D nd, xs, A1, c1, by rw [HM.out], by go_num, by omega, HNX.out.symm, HLS.out, HTS.out, by rw [HM.out]; exact hown, by rw [HM.out]; exact hns, hb, by rw [HM.out]; exact hc1⟩
          case measure => simp [intOf]; omega
        · have he' : nd.text.isEmpty = false := by cases h : nd.text with | nil => exact absurd h he | cons => rfl
          rcases List.eq_nil_or_concat D with rfl | ⟨D0, o, rfl⟩
          · have HM := Lib.hid (mergeStep_nil (n := nd) (fun h => he h.2))
            clear he hk2
            simp only [List.length_nil] at *
            go_wp2_with (at_builtin; go_must (refine wpList_push_at rfl _ _ _ rfl w.heap.size rowNd A1 0 c1 xs rfl hown [.int .i64 nd.kind, sv nd.name, .slice A2 n2 c2, sv nd.text, .slice A3 n3 c3] _ rfl rfl (by simp [Value.oneCell', sv]) (by unfold maxLen; omega) (by omega) hsz ?_))
            intro A6 c6 w6 hc6 ho6 hg6 _
            have b6 : Below w.heap.size wr w6 := (Below.refl _ wr).grown hg6 hsz (own_ge hown)
            have hn6 : NsIsP w6 S ([] ++ [nd]) (xs ++ [.int .i64 nd.kind, sv nd.name, .slice A2 n2 c2, sv nd.text, .slice A3 n3 c3]) := (hns.append (NsIsP.single hnx)).keep (fun p hp => b6.cell (hS _ hp))
            have B6 := hb.trans b6
            clear hg6 b6 g0 g1 g2 g3 g4 hnx hns hown
            go_wp2
            go_roundw
            case rel => exact ⟨k + 1, mergeStep [] nd, xs ++ [.int .i64 nd.kind, sv nd.name, .slice A2 n2 c2, sv nd.text, .slice A3 n3 c3], A6, c6, by rw [HM.out]; simp, by go_num, by omega, HNX.out.symm, HLS.out, HTS.out, by rw [HM.out]; simpa using ho6, by rw [HM.out]; exact hn6, B6, by rw [HM.out]; simpa using hc6⟩
            case measure => simp [intOf]; omega
          · rw [List.concat_eq_append] at *
            obtain ⟨ys, A4, n4, c4, A5, n5, c5, hxs, hny, hyl, hwt⟩ := hns.last
            obtain ⟨g, cap, hv, hg, hgl⟩ := hown.form (by simp)
            obtain ⟨rfl, rfl⟩ : A1 = some ⟨g, 0, none⟩ ∧ c1 = cap := by injection hv with h1 h2 h3; exact ⟨h1, h3⟩
            have hlen : (D0 ++ [o]).length = D0.length + 1 := by simp
            rw [hlen] at hown hc1 hDk ⊢
            have ca := hown.cellAt (D0.length * 5) (by omega)
            have cb := hown.cellAt (D0.length * 5 + 3) (by omega)
            have fz := hown.frozenAt (D0.length * 5 + 3)
            rw [hxs, List.getElem?_append_right (by omega), show D0.length * 5 - ys.length = 0 by omega] at ca
            rw [hxs, List.getElem?_append_right (by omega)] at cb
            rw [show D0.length * 5 + 3 - ys.length = 3 by omega] at cb
            simp only [List.getElem?_cons_zero, List.getElem?_cons_succ, sv] at ca cb
            by_cases hok : o.kind = 2
            · subst hxs
              have qo : (o.kind == 2) = true := by simp [hok]
              have HM := Lib.hid (mergeStep_join (D := D0) hk2 he hok)
              have hto : o.text.length + nd.text.length ≤ 1000000 := by
                rw [textSum_append] at hb4; simp only [textSum] at hb4; omega
              have hst := (hown.stored (D0.length * 5 + 3) (sv (o.text ++ nd.text))).1
              rw [List.set_append_right _ _ (by omega), show D0.length * 5 + 3 - ys.length = 3 by omega] at hst
              simp only [List.set_cons_succ, List.set_cons_zero] at hst
              have hb6 : Below w.heap.size wr (wr.setCell ⟨g, D0.length * 5 + 3, none⟩ (sv (o.text ++ nd.text))) := (Below.refl _ wr).setCell (p := ⟨g, D0.length * 5 + 3, none⟩) hg _
              have hn6 : NsIsP (wr.setCell ⟨g, D0.length * 5 + 3, none⟩ (sv (o.text ++ nd.text))) S (D0 ++ [o.withText (o.text ++ nd.text)]) (ys ++ [.int .i64 o.kind, sv o.name, .slice A4 n4 c4, sv (o.text ++ nd.text), .slice A5 n5 c5]) :=
                NsIsP.keep (fun p hp => hb6.cell (hS _ hp)) (hny.append (NsIsP.single (hwt _)))
              have B6 := hb.trans hb6
              have hcat : (⟨o.text.toArray⟩ : ByteArray) ++ ⟨nd.text.toArray⟩ = ⟨(o.text ++ nd.text).toArray⟩ := str_cat _ _
              have HCAT := Lib.hid hcat
              clear hcat hk2 he hok hnx hns hown hny hwt hb6 hyl hlen hv
              go_wp2_with fail
              go_region
              rw [HCAT.out]
              have hst' := hst.drew
              have hn7 : NsIsP (wr.setCell ⟨g, D0.length * 5 + 3, none⟩ (sv (o.text ++ nd.text))).drew S (D0 ++ [o.withText (o.text ++ nd.text)]) (ys ++ [.int .i64 o.kind, sv o.name, .slice A4 n4 c4, sv (o.text ++ nd.text), .slice A5 n5 c5]) := NsIsP.keep (w := wr.setCell ⟨g, D0.length * 5 + 3, none⟩ (sv (o.text ++ nd.text))) (w' := (wr.setCell ⟨g, D0.length * 5 + 3, none⟩ (sv (o.text ++ nd.text))).drew) (fun p hp => rfl) hn6
              have B7 := B6.drew
              clear hst hn6 B6 ca cb fz g0 g1 g2 g3 g4
              go_wp2
              go_roundw
              case rel => exact ⟨k + 1, mergeStep (D0 ++ [o]) nd, _, some ⟨g, 0, none⟩, c1, by rw [HM.out]; simp, by go_num, by omega, HNX.out.symm, HLS.out, HTS.out, by rw [HM.out, List.length_append]; exact hst', by rw [HM.out]; exact hn7, B7, by rw [HM.out]; simpa using hc1⟩
              case measure => simp [intOf]; omega
            · have qo : (o.kind == 2) = false := by simp [hok]
              have HM := Lib.hid (mergeStep_push (D := D0) (o := o) (n := nd) (fun h => he h.2) (fun h => hok h.2))
              clear he hk2 hok hxs
              go_wp2_with (at_builtin; go_must (refine wpList_push_at rfl _ _ _ rfl w.heap.size rowNd (some ⟨g, 0, none⟩) (D0.length + 1) c1 xs rfl hown [.int .i64 nd.kind, sv nd.name, .slice A2 n2 c2, sv nd.text, .slice A3 n3 c3] _ rfl rfl (by simp [Value.oneCell', sv]) (by unfold maxLen; omega) (by omega) hsz ?_))
              intro A6 c6 w6 hc6 ho6 hg6 _
              have b6 : Below w.heap.size wr w6 := (Below.refl _ wr).grown hg6 hsz (own_ge hown)
              have hn6 : NsIsP w6 S ((D0 ++ [o]) ++ [nd]) (xs ++ [.int .i64 nd.kind, sv nd.name, .slice A2 n2 c2, sv nd.text, .slice A3 n3 c3]) := (hns.append (NsIsP.single hnx)).keep (fun p hp => b6.cell (hS _ hp))
              have B6 := hb.trans b6
              clear hg6 b6 g0 g1 g2 g3 g4 hnx hns hown
              go_wp2
              go_roundw
              case rel => exact ⟨k + 1, mergeStep (D0 ++ [o]) nd, xs ++ [.int .i64 nd.kind, sv nd.name, .slice A2 n2 c2, sv nd.text, .slice A3 n3 c3], A6, c6, by rw [HM.out]; simp, by go_num, by omega, HNX.out.symm, HLS.out, HTS.out, by rw [HM.out]; simpa using ho6, by rw [HM.out]; exact hn6, B6, by rw [HM.out]; simpa using hc6⟩
              case measure => simp [intOf]; omega
      · have q2 : (nd.kind == 2) = false := by simp [hk2]
        have HM := Lib.hid (show mergeStep D nd = D ++ [nd] by
          rcases List.eq_nil_or_concat D with rfl | ⟨D0, o, rfl⟩
          · exact mergeStep_nil (fun h => hk2 h.1)
          · rw [List.concat_eq_append]; exact mergeStep_push (fun h => hk2 h.1) (fun h => hk2 h.1))
        clear hk2
        go_wp2_with (at_builtin; go_must (refine wpList_push_at rfl _ _ _ rfl w.heap.size rowNd A1 D.length c1 _ rfl hown [.int .i64 nd.kind, sv nd.name, .slice A2 n2 c2, sv nd.text, .slice A3 n3 c3] _ rfl rfl (by simp [Value.oneCell', sv]) (by unfold maxLen; omega) (by omega) hsz ?_))
        intro A6 c6 w6 hc6 ho6 hg6 _
        have b6 : Below w.heap.size wr w6 := (Below.refl _ wr).grown hg6 hsz (own_ge hown)
        have hn6 : NsIsP w6 S (D ++ [nd]) (xs ++ [.int .i64 nd.kind, sv nd.name, .slice A2 n2 c2, sv nd.text, .slice A3 n3 c3]) := (hns.append (NsIsP.single hnx)).keep (fun p hp => b6.cell (hS _ hp))
        have B6 := hb.trans b6
        clear hg6 b6 g0 g1 g2 g3 g4 hnx hns hown
        go_wp2
        go_roundw
        case rel => exact ⟨k + 1, mergeStep D nd, xs ++ [.int .i64 nd.kind, sv nd.name, .slice A2 n2 c2, sv nd.text, .slice A3 n3 c3], A6, c6, by rw [HM.out]; simp, by go_num, by omega, HNX.out.symm, HLS.out, HTS.out, by rw [HM.out]; simpa using ho6, by rw [HM.out]; exact hn6, B6, by rw [HM.out]; simpa using hc6⟩
        case measure => simp [intOf]; omega
    · have HE := Lib.hid (show D = mergeL l by rw [hD, List.take_of_length_le (by omega)]; rfl)
      have hN' : NodesP wr (fun b => S b ∨ (w.heap.size ≤ b ∧ b < wr.heap.size)) A1 D.length D :=
        ⟨xs, (RdP.of_own hown).more (fun b hb => .inr hb), hns.more (fun b hb => .inl hb)⟩
      clear hD hown hns
      go_wp2
      go_ret
      exact ⟨A1, c1, by rw [← HE.out]; rfl, by rw [← HE.out]; exact hc1, by rw [← HE.out]; exact hN', hb⟩
end Go.Proofs.Ytninjljkdbemkaa
