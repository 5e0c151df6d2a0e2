/- The law WriteNames. -/
import Derived.Test.YtjobaciajfoneaaWj
namespace Go.Proofs.Ytjobaciajfoneaa
open Go.RowKit

def Nd.bare (n : Nd) : Nd := .mk n.kind n.name n.attrs n.text []
theorem bare_kind (n : Nd) : n.bare.kind = n.kind := rfl
theorem bare_op (n : Nd) : opL n.bare = opL n := rfl
theorem bare_cl (n : Nd) : clL n.bare = clL n := rfl
theorem bare_text (n : Nd) (h : n.kind = 1) : textL [n.bare] = opL n.bare ++ clL n.bare := by
  rw [textL_one]
  cases hv : voidL n.name
  · rw [oneL_elem _ n.bare h hv]; rfl
  · rw [oneL_void _ n.bare h hv]
    have : clL n.bare = [] := by
      unfold clL
      rw [if_neg]
      show ¬ (n.kind = 1 ∧ voidL n.name = false)
      rw [hv]; simp
    rw [this, List.append_nil]
/-- the elements alone, without kids -/
def namesL (l : List Nd) : List Nd := (l.filter fun n => n.kind == 1).map Nd.bare
theorem namesL_take {l : List Nd} {k : Nat} (hk : k < l.length) : namesL (l.take (k + 1)) = namesL (l.take k) ++ (if l[k].kind = 1 then [l[k].bare] else []) := by
  rw [List.take_succ_eq_append_getElem hk]
  simp only [namesL, List.filter_append, List.map_append, List.filter_cons, List.filter_nil, beq_iff_eq]
  split <;> rfl
theorem names_len (n : Nd) (h : n.kind = 1) : (textL [n.bare]).length ≤ (textL [n]).length := by
  rw [bare_text n h, textL_one, List.length_append]
  cases hv : voidL n.name
  · rw [oneL_elem _ n h hv]; simp only [List.length_append, bare_op, bare_cl]; omega
  · rw [oneL_void _ n h hv]
    have : clL n.bare = [] := by
      unfold clL
      rw [if_neg]
      show ¬ (n.kind = 1 ∧ voidL n.name = false)
      rw [hv]; simp
    rw [this, bare_op]; simp
theorem namesL_len (l : List Nd) : (textL (namesL l)).length ≤ (textL l).length := by
  induction l with
  | nil => simp [namesL]
  | cons n l ih =>
    rw [show n :: l = [n] ++ l from rfl, textL_append, List.length_append]
    by_cases h : n.kind = 1
    · have : namesL ([n] ++ l) = [n.bare] ++ namesL l := by simp [namesL, h]
      rw [this, textL_append, List.length_append]
      have := names_len n h
      omega
    · have : namesL ([n] ++ l) = namesL l := by simp [namesL, h]
      rw [this]; omega
theorem namesL_plain (l : List Nd) : plainL (namesL l) = [] := by
  induction l with
  | nil => rfl
  | cons n l ih =>
    by_cases h : n.kind = 1
    · have : namesL (n :: l) = n.bare :: namesL l := by simp [namesL, h]
      rw [this, plainL, ih, plain1_eq, bare_kind, h]; rfl
    · have : namesL (n :: l) = namesL l := by simp [namesL, h]
      rw [this, ih]
theorem namesL_wt (l : List Nd) : wtL (namesL l) ≤ 2 * l.length := by
  induction l with
  | nil => simp [namesL, wtL]
  | cons n l ih =>
    by_cases h : n.kind = 1
    · have : namesL (n :: l) = n.bare :: namesL l := by simp [namesL, h]
      rw [this, wtL, wt1_eq, List.length_cons]
      have : wtL n.bare.kids = 0 := rfl
      omega
    · have : namesL (n :: l) = namesL l := by simp [namesL, h]
      rw [this, List.length_cons]; omega
theorem namesL_length (l : List Nd) : (namesL l).length ≤ l.length := by
  unfold namesL; rw [List.length_map]; exact List.length_filter_le _ _

set_option maxHeartbeats 8000000 in
set_option maxRecDepth 100000 in
/-- strainerlaw04.WriteNames -/
theorem WriteNames_calls {w : World} {A0 : Option Addr} {c0 : Nat} {l0 : List Nd} (hl0 : Nodes w w.heap.size A0 l0.length l0) (hlc : l0.length ≤ c0) :
    Calls Try.prog 4 #[.slice A0 l0.length c0] w fun e w' => e = .returned (.bool true) ∧ Below w.heap.size w w' := by
  have hx1 := goodOf_length l0
  have hx2 := goodOf_text l0
  have HEX := Lib.hid (show Nodes w w.heap.size none 0 [] from Nodes.nil _ _ _)
  clear HEX
  go_enter Try.func4, Try.ntmps4
  go_wp2_with fail
  refine (Good_any hl0 hlc).mono ?_
  rintro e W1 ⟨A1, c1, rfl, hc1, hn1, b1⟩
  generalize goodOf l0 = x at *
  clear hl0
  have hX := Lib.hid hn1
  clear hn1
  go_wp2
  go_loopw [4, 5, 6] (fun v s i wr => ∃ (k : Nat) (D : List Nd) (xs : List Value) (A4 : Option Addr) (c4 : Nat), v = .slice A4 D.length c4 ∧ s = .string ⟨(textL D).toArray⟩ ∧ i = .int .i64 k ∧ k ≤ x.length ∧ D = namesL (x.take k) ∧ D.length ≤ c4 ∧
      wr.ownsRow W1.heap.size 28 5 (.slice A4 D.length c4) D.length xs ∧ NsIs wr W1.heap.size D xs ∧ Below W1.heap.size W1 wr) (fun _ _ i _ => x.length - (intOf i).toNat)
  case atStart => exact ⟨0, [], [], none, 0, rfl, rfl, rfl, Nat.zero_le _, rfl, Nat.le_refl _, World.ownsRow_nil _ _ _ _, NsIsP.nil _ _, Below.refl _ _⟩
  case round =>
    obtain ⟨k, D, xs, A4, c4, rfl, rfl, rfl, hk, hD, hc4, hown, hns, hb⟩ := hrel
    have hDl : D.length ≤ 40 := by
      rw [hD]
      have h1 := namesL_length (x.take k)
      have h2 := List.length_take_le k x
      omega
    have hDt : (textL D).length ≤ 200000 := by
      rw [hD]
      have h1 := namesL_len (x.take k)
      have h2 : (textL (x.take k)).length ≤ (textL x).length := by
        conv => rhs; rw [← List.take_append_drop k x, textL_append, List.length_append]
        omega
      omega
    have hsz := hb.size
    by_cases hlt : k < x.length
    · obtain ⟨a, rfl, hna⟩ := (hX.out.below hb).node hlt hlt
      have htk := textL_at hlt
      have HDN := Lib.hid (show namesL (x.take (k + 1)) = D ++ (if x[k].kind = 1 then [x[k].bare] else []) by rw [namesL_take hlt, hD])
      clear hD
      generalize x[k] = nd at *
      have gk := hna.k
      have gn := hna.nm
      have gt := hna.tx
      obtain ⟨A2, c2, ga, hac, hat⟩ := hna.ats
      obtain ⟨A3, c3, gd, hdc, hkd⟩ := hna.kd
      by_cases h1 : nd.kind = 1
      · rw [h1] at gk
        have HDX := Lib.hid (show namesL (x.take (k + 1)) = D ++ [nd.bare] by rw [HDN.out, if_pos h1])
        have hBT := bare_text nd h1
        have hNL := names_len nd h1
        have hTX := show textL (D ++ [nd.bare]) = textL D ++ (opL nd.bare ++ clL nd.bare) by rw [textL_append, hBT]
        have hol : (opL nd.bare).length + (clL nd.bare).length ≤ 200000 := by
          have := congrArg List.length hBT
          rw [List.length_append] at this
          omega
        have HNB := Lib.hid (show Nd.mk 1 nd.name nd.attrs nd.text [] = nd.bare by rw [Nd.bare, h1])
        have HNI := Lib.hid (show NIs wr W1.heap.size nd.bare [.int .i64 1, .string ⟨nd.name.toArray⟩, .slice A2 nd.attrs.length c2, .string ⟨nd.text.toArray⟩, .slice none 0 0] by
          rw [← HNB.out]; exact NIs.mk' hac hat (Nat.le_refl 0) (Nodes.nil _ _ none))
        have HTX := Lib.hid hTX
        clear h1 hBT hNL hTX HDN hkd hdc hna
        have bN := fun o : Obj => (Below.refl wr.heap.size wr).alloc (Nat.le_refl _) o
        have hownN := fun o : Obj => own_below hown (bN o) (Nat.le_refl _)
        go_wp2_with (at_builtin; go_must (refine wpList_push rfl _ _ _ rfl W1.heap.size rowNd A4 D.length c4 xs rfl (hownN _) [.int .i64 1, .string ⟨nd.name.toArray⟩, .slice A2 nd.attrs.length c2, .string ⟨nd.text.toArray⟩, .slice none 0 0] 1 (by rw [World.size_alloc]; rfl) rfl (by simp [Value.oneCell']) (by unfold maxLen; omega) (by omega) (by simp; omega) ?_))
        intro A6 c6 w6 hc6 ho6 hg6
        have hG := (hg6.block wr.heap.size (by simp) (fun e => by have := hown.lt _ e.symm; omega)).trans (heap_alloc_new wr _)
        have cH := fun j => Lib.cell_of_heap hG j
        have e0 := cH 0
        have e1 := cH 1
        have e2 := cH 2
        have e3 := cH 3
        have e4 := cH 4
        simp only [List.getElem?_toArray, List.getElem?_cons_zero, List.getElem?_cons_succ] at e0 e1 e2 e3 e4
        have s6 := hg6.size
        rw [World.size_alloc] at s6
        have b6 : Below W1.heap.size W1 w6 := (hb.trans ((bN _).mono hsz)).grown hg6 (by simp; omega) (fun g hg => own_ge (hownN (.cells #[] 0)) g hg)
        have hn6 := (HNI.out.keep (fun p hp => (b6.cell hp).trans (hb.cell hp).symm))
        have hns6 := (hns.keep (fun p hp => (b6.cell hp).trans (hb.cell hp).symm)).append (NsIs.single hn6)
        have HN6 := Lib.hid hn6
        have HNS6 := Lib.hid hns6
        have HO6 := Lib.hid ho6
        clear hg6 hns hns6 hn6 ho6 HNI cH hownN bN hown
        have hL0 : ∀ w', Below w6.heap.size w6 w' → w'.cell? ⟨wr.heap.size, 0, none⟩ = _ := fun w' hw => (hw.cell (p := ⟨wr.heap.size, 0, none⟩) (by simp only []; omega)).trans e0
        have hL1 : ∀ w', Below w6.heap.size w6 w' → w'.cell? ⟨wr.heap.size, 1, none⟩ = _ := fun w' hw => (hw.cell (p := ⟨wr.heap.size, 1, none⟩) (by simp only []; omega)).trans e1
        have hL2 : ∀ w', Below w6.heap.size w6 w' → w'.cell? ⟨wr.heap.size, 2, none⟩ = _ := fun w' hw => (hw.cell (p := ⟨wr.heap.size, 2, none⟩) (by simp only []; omega)).trans e2
        have hL3 : ∀ w', Below w6.heap.size w6 w' → w'.cell? ⟨wr.heap.size, 3, none⟩ = _ := fun w' hw => (hw.cell (p := ⟨wr.heap.size, 3, none⟩) (by simp only []; omega)).trans e3
        have hL4 : ∀ w', Below w6.heap.size w6 w' → w'.cell? ⟨wr.heap.size, 4, none⟩ = _ := fun w' hw => (hw.cell (p := ⟨wr.heap.size, 4, none⟩) (by simp only []; omega)).trans e4
        have hn1 : ∀ w', Below w6.heap.size w6 w' → NIs w' w'.heap.size nd.bare _ := fun w' hw => (HN6.out.keep (fun p hp => hw.cell (Nat.lt_of_lt_of_le hp b6.size))).more (Nat.le_trans b6.size hw.size)
        have HN1 := Lib.hid hn1
        clear hn1
        have hcat : ((⟨(textL D).toArray⟩ : ByteArray) ++ ⟨(opL nd.bare).toArray⟩) ++ ⟨(clL nd.bare).toArray⟩ = ⟨(textL (D ++ [nd.bare])).toArray⟩ := by rw [cat_str, cat_str, List.append_assoc, ← HTX.out]
        have HCAT := Lib.hid hcat
        clear hcat
        have z1 : ¬ 9223372036854775807 < (textL D).length + (opL nd.bare).length := by omega
        have z2 : ¬ 9223372036854775807 < (textL D).length + (opL nd.bare).length + (clL nd.bare).length := by omega
        go_upto_region 11 with fail
        go_region_held3 (fun w' => Below w6.heap.size w6 w')
                  (repeat (first
                    | assumption
                    | with_reducible exact Below.refl _ _
                    | with_reducible refine Below.drew ?_
                    | with_reducible refine bt (a := w6) ?_ br))
                  (first
                    | (go_at_call 9; refine (WOpen_any (HN1.out _ (by assumption)) (by omega)).mono ?_; rintro e WA ⟨rfl, br⟩)
                    | (go_at_call 10; refine (WClose_any (HN1.out _ (by assumption)) (by omega)).mono ?_; rintro e WA ⟨rfl, br⟩))
        all_goals
          rename Below w6.heap.size w6 _ => b7
          rw [HCAT.out]
          go_wp2
          go_roundw
          case rel =>
            exact ⟨k + 1, D ++ [nd.bare], _, A6, c6, by simp, rfl, by go_num, by omega, HDX.out.symm, by simpa using hc6, by simpa using own_below HO6.out b7 (Nat.le_refl _), HNS6.out.keep (fun p hp => b7.cell (Nat.lt_of_lt_of_le hp b6.size)), b6.trans (b7.mono b6.size)⟩
          case measure => simp [intOf]; omega
      · have q1 : (nd.kind != 1) = true := by simp [h1]
        have HDX := Lib.hid (show namesL (x.take (k + 1)) = D by rw [HDN.out, if_neg h1, List.append_nil])
        clear h1 HDN
        go_wp2
        go_roundw
        case rel => exact ⟨k + 1, D, xs, A4, c4, rfl, rfl, by go_num, by omega, HDX.out.symm, hc4, hown, hns, hb⟩
        case measure => simp [intOf]; omega
    · have HDX := Lib.hid (show D = namesL x by rw [hD, List.take_of_length_le (by omega)])
      clear hD
      have hN := nodes_row hown hns hsz
      have B2 := bt b1 hb
      have hpl : plainL D = [] := by rw [HDX.out]; exact namesL_plain _
      have hwt : wtL D ≤ 1000000 := by rw [HDX.out]; have := namesL_wt x; omega
      have HPL := Lib.hid hpl
      clear hpl
      go_wp2_with fail
      refine (WText_any hN hc4 (by omega)).mono ?_
      rintro e W2 ⟨rfl, b2⟩
      have B3 := bt B2 b2
      have hN2 := hN.on b2
      clear b2 hN B2
      go_wp2_with fail
      refine (WPlain_any hN2 hc4 (by rw [HPL.out]; simp) hwt).mono ?_
      rintro e W3 ⟨rfl, b3⟩
      rw [HPL.out]
      have B4 := bt B3 b3
      clear b3 hN2 B3
      go_wp2_with fail
      refine (WText_any (A := none) (c := 0) (l := []) (Nodes.nil _ _ _) (Nat.le_refl 0) (by simp [textL, kidsL])).mono ?_
      rintro e W4 ⟨rfl, b4⟩
      have B5 := bt B4 b4
      have ht0 : textL [] = [] := rfl
      rw [ht0]
      clear b4 B4
      go_wp2_with fail
      refine (lives04 _).mono ?_
      rintro e W5 ⟨rfl, b5⟩
      go_wp2
      go_ret
      exact ⟨rfl, bt B5 b5⟩
end Go.Proofs.Ytjobaciajfoneaa
