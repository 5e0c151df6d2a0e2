/- The law WriteJoins. -/
import Derived.Test.YtjobaciajfoneaaWg2
import Derived.Test.YtjobaciajfoneaaG5
namespace Go.Proofs.Ytjobaciajfoneaa
open Go.RowKit
attribute [local go_sem ↓] Go.wp_at_zero Go.wp_at_succ

theorem textL_append (l m : List Nd) : textL (l ++ m) = textL l ++ textL m := kidsL_append false l m
theorem textL_one (n : Nd) : textL [n] = oneL false n := by simp [textL, kidsL]
theorem textL_at {l : List Nd} {k : Nat} (hk : k < l.length) : (textL [l[k]]).length ≤ (textL l).length := by
  have h : l = l.take k ++ [l[k]] ++ l.drop (k + 1) := by rw [← List.take_succ_eq_append_getElem hk, List.take_append_drop]
  conv => rhs; rw [h, textL_append, textL_append]
  simp only [List.length_append]
  omega
theorem Nodes.one {w : World} {B n c : Nat} {A : Option Addr} {l : List Nd} (h : Nodes w B A n l) (hc : n ≤ c) {k : Nat} (hk : k < n) (hk' : k < l.length) : ∃ a, A = some a ∧ Nodes w B (some (a.add (k * 5))) 1 [l[k]] := by
  obtain ⟨a, e, _⟩ := h.node hk hk'
  have h2 := h.cut (k := k) (cap := c) (by omega) hc
  rw [if_neg (by omega), e] at h2
  have h3 := h2.take (k := 1) (by omega)
  rw [List.drop_eq_getElem_cons hk', List.take_succ_cons, List.take_zero] at h3
  exact ⟨a, e, h3⟩
theorem nodes_row {w : World} {B lo n c : Nat} {A : Option Addr} {e : TypeId} {l : List Nd} {xs : List Value} (ho : w.ownsRow lo e 5 (.slice A n c) n xs) (h : NsIs w B l xs) (hB : B ≤ w.heap.size) : Nodes w w.heap.size A n l :=
  ⟨xs, Rd.of_own ho, NsIs.more hB h⟩

theorem oneL_elem_false (n : Nd) (h : n.kind = 1) (hv : voidL n.name = false) (hr : rawL n.name = false) : textL [n] = opL n ++ (textL n.kids ++ clL n) := by
  rw [textL_one, oneL_elem _ _ h hv, hr]; rfl

set_option maxHeartbeats 8000000 in
set_option maxRecDepth 100000 in
/-- strainerlaw04.WriteJoins -/
theorem WriteJoins_calls {w : World} {A0 B0 : Option Addr} {c0 d0 : Nat} {l0 k0 : List Nd} (hl0 : Nodes w w.heap.size A0 l0.length l0) (hlc : l0.length ≤ c0) (hk0 : Nodes w w.heap.size B0 k0.length k0) (hkc : k0.length ≤ d0) :
    Calls Try.prog 5 #[.slice A0 l0.length c0, .slice B0 k0.length d0] w fun e w' => e = .returned (.bool true) ∧ Below w.heap.size w w' := by
  have hx1 := goodOf_length l0
  have hx2 := goodOf_text l0
  have hy1 := goodOf_length k0
  have hy2 := goodOf_text k0
  go_enter Try.func5, Try.ntmps5
  go_wp2_with fail
  refine (Good_any hl0 hlc).mono ?_
  rintro e W1 ⟨A1, c1, rfl, hc1, hn1, b1⟩
  have hk1 := hk0.on b1
  generalize goodOf l0 = x at *
  go_wp2_with fail
  refine (Good_any hk1 hkc).mono ?_
  rintro e W2 ⟨A2, c2, rfl, hc2, hn2, b2⟩
  have hn1' := hn1.on b2
  have B2 := bt b1 b2
  generalize goodOf k0 = y at *
  clear b1 b2 hn1 hk1 hl0 hk0
  have hX := Lib.hid hn1'
  have hY := Lib.hid hn2
  obtain ⟨xs, hr1, hq1⟩ := hn1'
  obtain ⟨ys, hr2, hq2⟩ := hn2
  have hx5 : xs.length = x.length * 5 := hr1.1
  have hy5 : ys.length = y.length * 5 := hr2.1
  go_wp2_with (at_builtin; go_must (refine wpList_spread rfl _ _ _ rfl W2.heap.size rowNd none 0 0 [] rfl (World.ownsRow_nil _ _ _ _) W2.heap.size A1 x.length c1 xs rfl hr1 (NsIs.one hq1) (by unfold maxLen; omega) (by omega) (Nat.le_refl _) ?_))
  intro A4 c4 W4 hc4 o4 g4
  have s4 := g4.size
  have b4 := (Below.refl W2.heap.size W2).grown g4 (Nat.le_refl _) (by simp [Value.ownBlock])
  clear g4
  go_wp2_with (at_builtin; go_must (refine wpList_spread rfl _ _ _ rfl W2.heap.size rowNd A4 x.length c4 xs (by rfl) (by simpa using o4) W4.heap.size A2 y.length c2 ys rfl ((Rd.below (B := W2.heap.size) hr2 b4).more s4) (NsIs.one hq2) (by unfold maxLen; omega) (by omega) s4 ?_))
  intro A6 c6 W6 hc6 o6 g6
  have s6 := g6.size
  have b6 := b4.grown g6 s4 (fun g hg => own_ge (by simpa using o4) g (by simpa using hg))
  have hB := nodes_row o6 ((hq1.append hq2).keep (fun p hp => b6.cell hp)) b6.size
  have B6 := bt B2 b6
  have hX6 := Lib.hid ((hX.out.below b6).more b6.size)
  have hY6 := Lib.hid ((hY.out.below b6).more b6.size)
  have hlen : x.length + y.length = (x ++ y).length := by rw [List.length_append]
  rw [hlen] at hB hc6 ⊢
  have hT := textL_append x y
  clear g6 o4 o6 hX hY hr1 hr2 hq1 hq2 B2 b4 b6 s4 s6 hlen hx5 hy5 hc4
  generalize x ++ y = z at *
  have hXY : (textL z).length ≤ 1000000 := by rw [hT, List.length_append]; omega
  have hTL : (textL z).length = (textL x).length + (textL y).length := by rw [hT, List.length_append]
  have HT := Lib.hid hT
  have HTL := Lib.hid hTL
  clear hT hTL
  go_wp2_with fail
  refine (WText_any hB hc6 hXY).mono ?_
  rintro e W7 ⟨rfl, b7⟩
  have hB7 := hB.on b7
  have hX7 := Lib.hid (hX6.out.on b7)
  have hY7 := Lib.hid (hY6.out.on b7)
  have B7 := bt B6 b7
  clear hB hX6 hY6 B6 b7
  go_wp2_with fail
  refine (WText_any hX7.out hc1 (by omega)).mono ?_
  rintro e W8 ⟨rfl, b8⟩
  have hB8 := hB7.on b8
  have hX8 := Lib.hid (hX7.out.on b8)
  have hY8 := Lib.hid (hY7.out.on b8)
  have B8 := bt B7 b8
  clear hB7 hX7 hY7 B7 b8
  go_wp2_with fail
  refine (WText_any hY8.out hc2 (by omega)).mono ?_
  rintro e W9 ⟨rfl, b9⟩
  have hB9 := hB8.on b9
  have hX9 := Lib.hid (hX8.out.on b9)
  have hY9 := Lib.hid (hY8.out.on b9)
  have B9 := bt B8 b9
  clear hB8 hX8 hY8 B8 b9
  have hcat : (⟨(textL x).toArray⟩ : ByteArray) ++ ⟨(textL y).toArray⟩ = ⟨(textL z).toArray⟩ := by rw [HT.out, cat_str]
  go_wp2_with fail
  refine (WLength_any hB9 hc6 hXY).mono ?_
  rintro e W10 ⟨rfl, b10⟩
  have hX10 := Lib.hid (hX9.out.on b10)
  have hY10 := Lib.hid (hY9.out.on b10)
  have B10 := bt B9 b10
  clear hB9 hX9 hY9 B9 b10
  go_wp2_with fail
  refine (WLength_any hX10.out hc1 (by omega)).mono ?_
  rintro e W11 ⟨rfl, b11⟩
  have hX11 := Lib.hid (hX10.out.on b11)
  have hY11 := Lib.hid (hY10.out.on b11)
  have B11 := bt B10 b11
  clear hX10 hY10 B10 b11
  go_wp2_with fail
  refine (WLength_any hY11.out hc2 (by omega)).mono ?_
  rintro e W12 ⟨rfl, b12⟩
  have hX12 := Lib.hid (hX11.out.on b12)
  have B12 := bt B11 b12
  clear hX11 hY11 B11 b12
  have q2 : (((textL z).length : Int) != (textL x).length + (textL y).length) = false := by
    rw [bne_eq_false_iff_eq]
    have := HTL.out
    omega
  clear hcat
  go_wp2
  go_loopw [8] (fun i wr => ∃ k : Nat, i = .int .i64 k ∧ k ≤ x.length ∧ Below W12.heap.size W12 wr) (fun i _ => x.length - (intOf i).toNat)
  case atStart => exact ⟨0, rfl, Nat.zero_le _, Below.refl _ _⟩
  case round =>
    obtain ⟨k, rfl, hk, bk⟩ := hrel
    by_cases hlt : k < x.length
    · have hxk := hX12.out.on bk
      obtain ⟨a, rfl, hna⟩ := hxk.node hlt hlt
      obtain ⟨a', ea, hone⟩ := hxk.one hc1 hlt hlt
      injection ea with ea
      subst ea
      have htk := textL_at hlt
      have HONE := Lib.hid hone
      have HXK := Lib.hid hxk
      clear hone hxk
      generalize x[k] = nd at *
      have gk := hna.k
      have gn := hna.nm
      have gt := hna.tx
      obtain ⟨A3, c3, ga, hac, hat⟩ := hna.ats
      obtain ⟨A5, c5, gd, hdc, hkd⟩ := hna.kd
      go_wp2_with fail
      refine (rVoid_any nd.name _).mono ?_
      rintro e W13 ⟨rfl, rfl⟩
      go_wp2_with fail
      refine (rRaw_any nd.name _).mono ?_
      rintro e W13 ⟨rfl, rfl⟩
      have hLk : ∀ w', Below wr.heap.size wr w' → w'.cell? (a.add (k * 5)) = some (.int .i64 nd.kind) := fun w' hw => (hna.keep hw).k
      have hLn : ∀ w', Below wr.heap.size wr w' → w'.cell? ⟨(a.add (k * 5)).block, (a.add (k * 5)).off + 1, none⟩ = some (.string ⟨nd.name.toArray⟩) := fun w' hw => (hna.keep hw).nm
      have hLt : ∀ w', Below wr.heap.size wr w' → w'.cell? ⟨(a.add (k * 5)).block, (a.add (k * 5)).off + 3, none⟩ = some (.string ⟨nd.text.toArray⟩) := fun w' hw => (hna.keep hw).tx
      have hLa : ∀ w', Below wr.heap.size wr w' → w'.cell? ⟨(a.add (k * 5)).block, (a.add (k * 5)).off + 2, none⟩ = some (.slice A3 nd.attrs.length c3) := fun w' hw => (hw.cell (p := ⟨(a.add (k * 5)).block, (a.add (k * 5)).off + 2, none⟩) hna.1).trans ga
      have hLd : ∀ w', Below wr.heap.size wr w' → w'.cell? ⟨(a.add (k * 5)).block, (a.add (k * 5)).off + 4, none⟩ = some (.slice A5 nd.kids.length c5) := fun w' hw => (hw.cell (p := ⟨(a.add (k * 5)).block, (a.add (k * 5)).off + 4, none⟩) hna.1).trans gd
      go_upto_region 13 with fail
      go_cut [9, 10, 97] (fun _ _ s97 wx => s97 = .bool false ∧ Below wr.heap.size wr wx)
      case first =>
        by_cases h1 : nd.kind = 1
        · rw [h1] at hLk
          cases hv : voidL nd.name with
          | true =>
            go_region
            go_wp2_with fail
            go_meet
            exact ⟨rfl, (Below.refl _ _).drew⟩
          | false =>
            cases hr : rawL nd.name with
            | true =>
              go_region
              go_wp2_with fail
              go_meet
              exact ⟨rfl, (Below.refl _ _).drew⟩
            | false =>
              have hol := oneL_elem_false nd h1 hv hr
              have hs1 : (textL [nd]).length = (opL nd).length + ((textL nd.kids).length + (clL nd).length) := by rw [hol]; simp only [List.length_append]
              have hcat : ((⟨(opL nd).toArray⟩ : ByteArray) ++ ⟨(textL nd.kids).toArray⟩) ++ ⟨(clL nd).toArray⟩ = ⟨(textL [nd]).toArray⟩ := by rw [hol, cat_str, cat_str, List.append_assoc]
              have hND : Nd.mk 1 nd.name nd.attrs nd.text nd.kids = nd := by cases nd; simp only [Nd.kind] at h1; subst h1; rfl
              have HNI := NIs.mk' (k := 1) (nm := nd.name) (tx := nd.text) hac hat hdc hkd
              rw [hND] at HNI
              have hn1 : ∀ w', Below wr.heap.size wr w' → NIs w' w'.heap.size nd _ := fun w' hw => (HNI.keep (fun p hp => hw.cell hp)).more hw.size
              have hk1 : ∀ w', Below wr.heap.size wr w' → Nodes w' w'.heap.size A5 nd.kids.length nd.kids := fun w' hw => hkd.on hw
              have ho1 : ∀ w', Below wr.heap.size wr w' → Nodes w' w'.heap.size (some (a.add (k * 5))) [nd].length [nd] := fun w' hw => HONE.out.on hw
              have HN1 := Lib.hid hn1
              have HK1 := Lib.hid hk1
              have HO1 := Lib.hid ho1
              clear hol hat h1 hkd hna hn1 hk1 ho1 HNI hND
              have z1 : ¬ c1 = k := by omega
              have z2 : (0 : Int) ≤ k := by omega
              have z3 : (k : Int) ≤ k + 1 := by omega
              have z4 : (k : Int) + 1 ≤ c1 := by omega
              have z5 : IntKind.i64.wrap ((k : Int) + 1) = k + 1 := IntWalk.i64_in _ (by omega)
              have z6 : ((k : Int) + 1 - k).toNat = 1 := by omega
              have z7 : ¬ 9223372036854775807 < (opL nd).length + (textL nd.kids).length := by omega
              have z8 : ¬ 9223372036854775807 < (opL nd).length + (textL nd.kids).length + (clL nd).length := by omega
              go_region_held3 (fun w' => Below wr.heap.size wr w')
                  (repeat (first
                    | assumption
                    | with_reducible exact Below.refl _ _
                    | with_reducible refine Below.drew ?_
                    | with_reducible refine bt (a := wr) ?_ br))
                  (first
                    | (go_at_call 7; refine (WText_any (c := c1 - k) (l := [nd]) (HO1.out _ (by assumption)) (by simp only [List.length_cons, List.length_nil]; omega) (by omega)).mono ?_; rintro e WA ⟨rfl, br⟩)
                    | (go_at_call 7; refine (WText_any (HK1.out _ (by assumption)) hdc (by omega)).mono ?_; rintro e WA ⟨rfl, br⟩)
                    | (go_at_call 9; refine (WOpen_any (HN1.out _ (by assumption)) (by omega)).mono ?_; rintro e WA ⟨rfl, br⟩)
                    | (go_at_call 10; refine (WClose_any (HN1.out _ (by assumption)) (by omega)).mono ?_; rintro e WA ⟨rfl, br⟩))
              all_goals
                go_wp2_with fail
                go_meet
                exact ⟨rfl, by assumption⟩
        · have q1 : (nd.kind == 1) = false := by simp [h1]
          go_region
          go_wp2_with fail
          go_meet
          exact ⟨rfl, (Below.refl _ _).drew⟩
      case rest =>
        obtain ⟨rfl, b13⟩ := hcut
        go_wp2
        go_roundw
        case rel => exact ⟨k + 1, by go_num, by omega, bt bk b13⟩
        case measure => simp [intOf]; omega
    · have B13 := bt B12 bk
      go_wp2_with fail
      refine (lives04 _).mono ?_
      rintro e W14 ⟨rfl, b14⟩
      go_wp2
      go_ret
      exact ⟨rfl, bt B13 b14⟩
end Go.Proofs.Ytjobaciajfoneaa
