/- The package token: Tokens. The walks of the package utf, further: Right. The walk of strainerref02.Escape. -/
import Derived.Test.YtnkelhmjkmeilaaGreatDoorT05
import Derived.Test.YtnkelhmjkmeilaaGreatDoorT12
import Derived.Test.YtnkelhmjkmeilaaGreatDoorT04
section
namespace Go.Proofs.YtnkelhmjkmeilaaGreatDoor
open Go.RowKit
structure TkSt (w W : World) (A : Option Addr) (c : Nat) (D : List Tk) (xs : List Value) : Prop where
  own : W.ownsRow w.heap.size 443 4 (.slice A D.length c) D.length xs
  toks : TsIs W (Apart w.heap.size W (.slice A D.length c)) D xs
  bel : Below w.heap.size w W
  cap : D.length ≤ c
section
variable {w W W' : World} {A : Option Addr} {c : Nat} {D : List Tk} {xs : List Value}
theorem TkSt.step (h : TkSt w W A c D xs) (b : Below W.heap.size W W') : TkSt w W' A c D xs :=
  ⟨own_below h.own b (Nat.le_refl _), below_toks h.toks b, bt h.bel b, h.cap⟩
theorem TkSt.apart (h : TkSt w W A c D xs) (_b : Below W.heap.size W W') {k : Nat} (h1 : W.heap.size ≤ k) (h2 : k < W'.heap.size) : Apart w.heap.size W' (.slice A D.length c) k :=
  ⟨Nat.le_trans h.bel.size h1, h2, fun e => by have := (h.own.lt _ e).2; omega⟩
theorem TkSt.push {A' : Option Addr} {c' : Nat} {t : Tk} {cs : List Value} (h : TkSt w W A c D xs) (ht : TIs W (Apart w.heap.size W (.slice A D.length c)) t cs) (hg : W.grownBy W' (Value.slice A D.length c).ownBlock)
    (ho : W'.ownsRow w.heap.size 443 4 (.slice A' (D.length + 1) c') (D.length + 1) (xs ++ cs)) (hc : D.length + 1 ≤ c')
    (hat : ∀ g, (Value.slice A' (D.length + 1) c').ownBlock = some g → (Value.slice A D.length c).ownBlock = some g ∨ W.heap.size ≤ g) : TkSt w W' A' c' (D ++ [t]) (xs ++ cs) := by
  have hl : (D ++ [t]).length = D.length + 1 := by simp
  refine ⟨by rw [hl]; exact ho, ?_, h.bel.grown hg h.bel.size (own_ge h.own), by rw [hl]; exact hc⟩
  rw [hl]
  exact push_toks (h.toks.append (TsIs.single ht)) hg hat
theorem TkSt.kept (h : TkSt w W A c D xs) (hg : W.grownBy W' (Value.slice A D.length c).ownBlock) {b : Nat} (hb : b < W.heap.size) {o : Obj} (ho : W.heap[b]? = some o) (hno : ∀ cs fz, o ≠ .cells cs 443 fz ∨ (Value.slice A D.length c).ownBlock ≠ some b) : W'.heap[b]? = some o := by
  refine (hg.block b hb (fun e => ?_)).trans ho
  rcases h.own.2 with ⟨he, _⟩ | ⟨g, cap, cur, he, _, hh, _⟩
  · rw [he] at e; simp [Value.ownBlock] at e
  · rw [he] at e
    have e2 : b = g := by simpa [Value.ownBlock] using e
    subst e2
    rw [hh] at ho
    injection ho with ho
    rcases hno cur (0, 0) with h1 | h1
    · exact h1 ho.symm
    · rw [he] at h1; exact h1 e.symm
end
set_option maxHeartbeats 1000000 in
set_option maxRecDepth 100000 in
theorem Tokens_any {w : World} {s : ByteArray} {l : List UInt8} (hs : IsStr s l) (hl : l.length ≤ 1000000) (hM : M0 w) :
    Calls Tryz.prog 314 #[.string s] w fun e w' => ∃ A c, e = .returned (.slice A (toksL l).length c) ∧ (toksL l).length ≤ c ∧ ToksP w' (fun b => w.heap.size ≤ b ∧ b < w'.heap.size) A (toksL l).length (toksL l) ∧ Below w.heap.size w w' := by
  have HS := Lib.hid hs
  have HM := Lib.hid hM
  clear hs hM
  go_enter Tryz.func314, Tryz.ntmps314
  go_wp2
  go_loopw [0, 3] (fun v lv wr => ∃ (t : ByteArray) (rest : List UInt8) (D : List Tk) (A : Option Addr) (c : Nat) (xs : List Value), v = .string t ∧ IsStr t rest ∧ lv = .slice A D.length c ∧ TkSt w wr A c D xs ∧ D ++ toksL rest = toksL l ∧ rest.length ≤ l.length ∧ D.length ≤ 2 * (l.length - rest.length)) (fun v _ _ => strLen v)
  case atStart => exact ⟨s, l, [], none, 0, [], rfl, HS.out, rfl, ⟨World.ownsRow_nil _ _ _ _, TsIs.nil _ _, Below.refl _ _, Nat.le_refl _⟩, rfl, Nat.le_refl _, Nat.zero_le _⟩
  case round =>
    obtain ⟨t, rest, D, A, c, xs, rfl, ht, rfl, st, hall, hrl, hDl⟩ := hrel
    have htz := ht.size
    have HALL := Lib.hid hall
    have HT := Lib.hid ht
    have hM1 := HM.out.below st.bel
    clear hall
    cases rest with
    | nil =>
      obtain rfl := ht.to
      have HE := Lib.hid (show D = toksL l by rw [← HALL.out, toksL_nil, List.append_nil])
      have hP := toks_of_own st.own st.toks
      have hcap := st.cap
      have hbel := st.bel
      clear ht htz st
      go_wp2
      go_ret
      exact ⟨A, c, by rw [← HE.out]; rfl, by rw [← HE.out]; exact hcap, by rw [← HE.out]; exact hP, hbel⟩
    | cons b0 b1 =>
      have hne : t.toList.isEmpty = false := by
        have := str_ne ht (by simp)
        cases h : t.toList with
        | nil => exact absurd h this
        | cons => rfl
      have hne2 : (b0 :: b1) ≠ [] := by simp
      generalize (b0 :: b1) = rest at *
      have HRD := Lib.hid (toksL_round hne2)
      have hless := tokRound_less hne2
      have hfew := tokRound_few rest
      have hts : t.size ≤ 1000000 := by omega
      have HTZ := Lib.hid htz
      clear hne2 htz
      go_wp2_with fail
      refine (Tag_any HT.out (by omega) hM1).mono ?_
      rintro e W1 ⟨A1, c1, rfl, hok, b2⟩
      have st1 := st.step b2
      have hap := fun k => st.apart b2 (k := k)
      have hR : tokRound rest = if (tagL rest).2 = 0 then ([charTk (dec (rest.take (charL rest)))], rest.drop (charL rest))
        else if (tagL rest).1.kind = 0 then ([], rest.drop (tagL rest).2)
        else if (tagL rest).1.kind = 1 ∧ rawL (tagL rest).1.name = true then
          ((tagL rest).1 :: (if 0 < rawN (rest.drop (tagL rest).2) (tagL rest).1.name then [charTk ((rest.drop (tagL rest).2).take (rawN (rest.drop (tagL rest).2) (tagL rest).1.name))] else []),
            (rest.drop (tagL rest).2).drop (rawN (rest.drop (tagL rest).2) (tagL rest).1.name))
        else ([(tagL rest).1], rest.drop (tagL rest).2) := rfl
      have hn0 : (tagL rest).2 ≤ rest.length := by
        by_cases h : (tagL rest).2 = 0
        · omega
        · exact (tagL_le (tag_nonzero h)).2
      have HR := Lib.hid hR
      clear hR
      generalize htg : tagL rest = tp at *
      obtain ⟨tg, n⟩ := tp
      simp only [] at hok hn0 ⊢
      have HTG := Lib.hid htg
      clear htg
      have b3 := (Below.refl W1.heap.size W1).alloc (Nat.le_refl _) (.cells #[.int .i64 tg.kind, .string ⟨tg.name.toArray⟩, .slice A1 tg.attrs.length c1, .string ⟨tg.text.toArray⟩] 443)
      have hT := heap_alloc_new W1 (.cells #[.int .i64 tg.kind, .string ⟨tg.name.toArray⟩, .slice A1 tg.attrs.length c1, .string ⟨tg.text.toArray⟩] 443)
      have st2 := st1.step b3
      have hM2 := (hM1.below b2).below b3
      unfold tkv
      by_cases hn : n = 0
      · subst hn
        have HR2 := Lib.hid (show tokRound rest = ([charTk (dec (rest.take (charL rest)))], rest.drop (charL rest)) by rw [HR.out]; rfl)
        obtain ⟨m, hm⟩ : ∃ m, m = charL rest := ⟨_, rfl⟩
        have hml : m ≤ t.size := by rw [hm, HTZ.out]; exact charL_le rest
        have hx := s_take HT.out m
        have hxl : (rest.take m).length ≤ 1000000 := by rw [List.length_take]; omega
        have hy := s_drop HT.out m
        have HM := Lib.hid hm
        clear hm hok
        generalize hxe : t.extract 0 m = x at *
        generalize hye : t.extract m t.size = y at *
        go_wp2_with fail
        refine (characters_any HT.out (by omega) _).mono ?_
        rintro e W2 ⟨rfl, hw2⟩
        rw [hw2, ← HM.out]
        clear hw2 W2
        go_wp2_with fail
        refine (Decode_any hx hxl).mono ?_
        rintro e W3 ⟨z, rfl, hz, b4⟩
        have st3 := st2.step b4
        have HZ := Lib.hid (show TIs W3 (Apart w.heap.size W3 (.slice A D.length c)) (charTk (dec (rest.take (charL rest)))) [.int .i64 3, .string ⟨#[]⟩, .slice none 0 0, .string z] from
          ⟨none, 0, by rw [hz.to, HM.out]; rfl, Nat.le_refl 0, RdP.nil _ _ _ _⟩)
        have HY := Lib.hid hy
        clear hx hxl hxe hz b4 st2 hT b3 b2 hM2 hy
        have hDb : D.length ≤ 2000000 := by omega
        go_wp2_with (at_builtin; go_must (refine wpList_push_at rfl _ _ _ rfl w.heap.size rowTk A D.length c xs rfl st3.own [.int .i64 3, .string ⟨#[]⟩, .slice none 0 0, .string z] 1 rfl rfl (by simp [Value.oneCell']) (by unfold maxLen; omega) (by omega) st3.bel.size ?_))
        intro A6 c6 w6 hc6 ho6 hg6 hat6
        have st6 := st3.push HZ.out hg6 ho6 hc6 hat6
        clear hg6 ho6 hat6
        go_wp2
        go_roundw
        case rel =>
          refine ⟨y, rest.drop m, D ++ [charTk (dec (rest.take (charL rest)))], A6, c6, _, rfl, HY.out, by simp, st6, ?_, by rw [List.length_drop]; omega, ?_⟩
          · rw [List.append_assoc, ← HALL.out, HRD.out, HR2.out, HM.out]
          · rw [HR2.out] at hless
            simp only [List.length_drop, List.length_append, List.length_cons, List.length_nil] at hless ⊢
            have := HM.out
            omega
        case measure =>
          rw [HR2.out] at hless
          have := HY.out.size
          simp only [List.length_drop] at hless this
          have := HM.out
          have := HTZ.out
          simp [strLen]
          omega
      · have HR2 := Lib.hid (show tokRound rest = if tg.kind = 0 then ([], rest.drop n) else if tg.kind = 1 ∧ rawL tg.name = true then
            (tg :: (if 0 < rawN (rest.drop n) tg.name then [charTk ((rest.drop n).take (rawN (rest.drop n) tg.name))] else []), (rest.drop n).drop (rawN (rest.drop n) tg.name)) else ([tg], rest.drop n) by rw [HR.out]; exact if_neg hn)
        have hnb : ((n : Int) == 0) = false := by rw [beq_eq_false_iff_ne]; omega
        have hnt : n ≤ t.size := by have := HTZ.out; omega
        have hnm := tagL_name_le rest
        rw [HTG.out] at hnm
        have hy := s_drop HT.out n
        have hyl : (rest.drop n).length ≤ 1000000 := by rw [List.length_drop]; omega
        generalize hye : t.extract n t.size = y at *
        have HY := Lib.hid hy
        have HYZ := Lib.hid hy.size
        clear hy
        by_cases hk0 : tg.kind = 0
        · have HR3 := Lib.hid (show tokRound rest = ([], rest.drop n) by rw [HR2.out, if_pos hk0])
          have qk : (tg.kind == 0) = true := by rw [hk0]; rfl
          clear hk0 hT
          go_wp2
          go_roundw
          case rel =>
            refine ⟨y, rest.drop n, D, A, c, _, rfl, HY.out, rfl, st2, ?_, by rw [List.length_drop]; omega, ?_⟩
            · rw [← HALL.out, HRD.out, HR3.out]; rfl
            · rw [List.length_drop]; omega
          case measure =>
            have := HY.out.size
            rw [List.length_drop] at this
            have := HTZ.out
            simp [strLen]
            omega
        · have HR4 := Lib.hid (show tokRound rest = if tg.kind = 1 ∧ rawL tg.name = true then
            (tg :: (if 0 < rawN (rest.drop n) tg.name then [charTk ((rest.drop n).take (rawN (rest.drop n) tg.name))] else []), (rest.drop n).drop (rawN (rest.drop n) tg.name)) else ([tg], rest.drop n) by rw [HR2.out, if_neg hk0])
          have qk : (tg.kind == 0) = false := by rw [beq_eq_false_iff_ne]; exact hk0
          have HTI := Lib.hid (show TIs (W1.alloc (.cells #[.int .i64 tg.kind, .string ⟨tg.name.toArray⟩, .slice A1 tg.attrs.length c1, .string ⟨tg.text.toArray⟩] 443)) (Apart w.heap.size (W1.alloc (.cells #[.int .i64 tg.kind, .string ⟨tg.name.toArray⟩, .slice A1 tg.attrs.length c1, .string ⟨tg.text.toArray⟩] 443)) (.slice A D.length c)) tg [.int .i64 tg.kind, .string ⟨tg.name.toArray⟩, .slice A1 tg.attrs.length c1, .string ⟨tg.text.toArray⟩] from
            ⟨A1, c1, rfl, hok.1, (hok.2.keep (fun p hp => b3.cell hp.2)).more (fun b hb => ⟨Nat.le_trans st.bel.size hb.1, Nat.lt_of_lt_of_le hb.2 b3.size, fun e => by have := (st.own.lt _ e).2; omega⟩)⟩)
          have hDb : D.length ≤ 2000000 := by omega
          have hlen1 : (D ++ [tg]).length = D.length + 1 := by simp
          have hTown : (Value.slice A D.length c).ownBlock ≠ some W1.heap.size := fun e => by have := (st1.own.lt _ e).2; omega
          have HLEN := Lib.hid hlen1
          clear hk0 hlen1
          go_wp2_with (at_builtin; go_must (refine wpList_push_at rfl _ _ _ rfl w.heap.size rowTk A D.length c xs rfl st2.own [.int .i64 tg.kind, .string ⟨tg.name.toArray⟩, .slice A1 tg.attrs.length c1, .string ⟨tg.text.toArray⟩] 1 (by rw [World.size_alloc]; rfl) rfl (by simp [Value.oneCell']) (by unfold maxLen; omega) (by omega) st2.bel.size ?_))
          intro A6 c6 w6 hc6 ho6 hg6 hat6
          have st6 := st2.push HTI.out hg6 ho6 hc6 (fun g hg => by rw [World.size_alloc]; exact hat6 g hg)
          have hT6 := (hg6.block W1.heap.size (by simp) (fun e => hTown e.symm)).trans hT
          have hTc := fun j => Lib.cell_of_heap hT6 j
          have t0 := hTc 0
          have t1 := hTc 1
          simp only [List.getElem?_toArray, List.getElem?_cons_zero, List.getElem?_cons_succ] at t0 t1
          clear hg6 ho6 hat6 hTc hT st2 st1 b3 b2 hTown hM1 hM2 hok
          have hM6 := HM.out.below st6.bel
          generalize xs ++ [.int .i64 tg.kind, .string ⟨tg.name.toArray⟩, .slice A1 tg.attrs.length c1, .string ⟨tg.text.toArray⟩] = xs6 at *
          by_cases hk1 : tg.kind = 1
          · have q1 : (tg.kind == 1) = true := by rw [hk1]; rfl
            have HK1 := Lib.hid hk1
            clear hk1
            go_wp2_with fail
            refine (dRaw_any tg.name _).mono ?_
            rintro e W4 ⟨rfl, rfl⟩
            cases hraw : rawL tg.name with
            | false =>
              have HR3 := Lib.hid (show tokRound rest = ([tg], rest.drop n) by rw [HR4.out, if_neg (by rw [hraw]; simp)])
              clear hraw
              go_wp2
              go_roundw
              case rel =>
                refine ⟨y, rest.drop n, D ++ [tg], A6, c6, _, rfl, HY.out, by simp, st6, ?_, by rw [List.length_drop]; omega, ?_⟩
                · rw [List.append_assoc, ← HALL.out, HRD.out, HR3.out]
                · rw [HLEN.out, List.length_drop]; omega
              case measure =>
                have := HY.out.size
                rw [List.length_drop] at this
                have := HTZ.out
                simp [strLen]
                omega
            | true =>
              have HRAW := Lib.hid hraw
              clear hraw
              go_wp2_with fail
              refine (Ends_any HY.out hyl (IsStr.mk tg.name) (by omega) hM6).mono ?_
              rintro e W5 ⟨rfl, b5⟩
              have st5 := st6.step b5
              have hys : y.size ≤ 1000000 := by have := HYZ.out; omega
              have hyn : y.size + n = t.size := by have := HYZ.out; rw [List.length_drop] at this; have := HTZ.out; omega
              have HYN := Lib.hid hyn
              clear st6 b5 hM6 t0 t1 hT6 hyn
              by_cases he : endsL (rest.drop n) tg.name < 0
              · have HN := Lib.hid (show rawN (rest.drop n) tg.name = y.size by unfold rawN; rw [if_pos he, HYZ.out])
                generalize endsL (rest.drop n) tg.name = e0i at *
                have hNl : y.size ≤ y.size := Nat.le_refl _
                have HX := Lib.hid (s_take HY.out (y.size))
                have HW := Lib.hid (show IsStr ByteArray.empty ((rest.drop n).drop y.size) by rw [List.drop_of_length_le (by have := HYZ.out; omega)]; rfl)
                by_cases h0 : 0 < y.size
                · have HR3 := Lib.hid (show tokRound rest = ([tg, charTk ((rest.drop n).take (y.size))], (rest.drop n).drop (y.size)) by
                    rw [HR4.out, if_pos ⟨HK1.out, HRAW.out⟩, HN.out, if_pos h0])
                  have h0i : (0 : Int) < ((y.size : Nat) : Int) := by omega
                  generalize hxe : y.extract 0 (y.size) = x at *
                  have HZ := Lib.hid (show TIs W5 (Apart w.heap.size W5 (.slice A6 (D ++ [tg]).length c6)) (charTk ((rest.drop n).take (y.size))) [.int .i64 3, .string ⟨#[]⟩, .slice none 0 0, .string x] from
                    ⟨none, 0, by rw [HX.out.to]; rfl, Nat.le_refl 0, RdP.nil _ _ _ _⟩)
                  skip
                  go_wp2_with (at_builtin; go_must (refine wpList_push_at rfl _ _ _ rfl w.heap.size rowTk A6 (D.length + 1) c6 xs6 rfl (by have h := st5.own; rw [List.length_append] at h; exact h) [.int .i64 3, .string ⟨#[]⟩, .slice none 0 0, .string x] 1 rfl rfl (by simp [Value.oneCell']) (by unfold maxLen; omega) (by omega) st5.bel.size ?_))
                  intro A7 c7 w7 hc7 ho7 hg7 hat7
                  have st7 := st5.push HZ.out (by rw [HLEN.out]; exact hg7) (by rw [HLEN.out]; exact ho7) (by rw [HLEN.out]; exact hc7) (by rw [HLEN.out]; exact hat7)
                  clear hg7 ho7 hat7
                  go_wp2
                  go_roundw
                  case rel =>
                    refine ⟨ByteArray.empty, (rest.drop n).drop (y.size), D ++ [tg] ++ [charTk ((rest.drop n).take (y.size))], A7, c7, _, rfl, HW.out, by simp, st7, ?_, by rw [List.length_drop, List.length_drop]; omega, ?_⟩
                    · rw [List.append_assoc, List.append_assoc, ← HALL.out, HRD.out, HR3.out]; rfl
                    · rw [HR3.out] at hless
                      simp only [List.length_drop, List.length_append, List.length_cons, List.length_nil] at hless ⊢
                      omega
                  case measure =>
                    rw [HR3.out] at hless
                    have := HW.out.size
                    simp only [List.length_drop] at hless this
                    have := HTZ.out
                    simp [strLen]
                    omega
                · have HR3 := Lib.hid (show tokRound rest = ([tg], (rest.drop n).drop (y.size)) by
                    rw [HR4.out, if_pos ⟨HK1.out, HRAW.out⟩, HN.out, if_neg h0])
                  have h0i : ¬ (0 : Int) < ((y.size : Nat) : Int) := by omega
                  skip
                  go_wp2
                  go_roundw
                  case rel =>
                    refine ⟨ByteArray.empty, (rest.drop n).drop (y.size), D ++ [tg], A6, c6, _, rfl, HW.out, by simp, st5, ?_, by rw [List.length_drop, List.length_drop]; omega, ?_⟩
                    · rw [List.append_assoc, ← HALL.out, HRD.out, HR3.out]
                    · rw [HR3.out] at hless
                      simp only [List.length_drop, List.length_append, List.length_cons, List.length_nil] at hless ⊢
                      omega
                  case measure =>
                    rw [HR3.out] at hless
                    have := HW.out.size
                    simp only [List.length_drop] at hless this
                    have := HTZ.out
                    simp [strLen]
                    omega
              · obtain ⟨e0, hee⟩ : ∃ e0 : Nat, endsL (rest.drop n) tg.name = e0 := ⟨_, (Int.toNat_of_nonneg (by omega)).symm⟩
                have HN := Lib.hid (show rawN (rest.drop n) tg.name = e0 by unfold rawN; rw [if_neg he, hee]; rfl)
                rw [hee]
                clear hee he
                have hNl : e0 ≤ y.size := by rw [← HN.out, HYZ.out]; exact rawN_le _ _
                have HX := Lib.hid (s_take HY.out (e0))
                have HW := Lib.hid (s_drop HY.out (e0))
                by_cases h0 : 0 < e0
                · have HR3 := Lib.hid (show tokRound rest = ([tg, charTk ((rest.drop n).take (e0))], (rest.drop n).drop (e0)) by
                    rw [HR4.out, if_pos ⟨HK1.out, HRAW.out⟩, HN.out, if_pos h0])
                  have h0i : (0 : Int) < ((e0 : Nat) : Int) := by omega
                  generalize hxe : y.extract 0 (e0) = x at *
                  generalize hwe : y.extract (e0) y.size = y2 at *
                  have HZ := Lib.hid (show TIs W5 (Apart w.heap.size W5 (.slice A6 (D ++ [tg]).length c6)) (charTk ((rest.drop n).take (e0))) [.int .i64 3, .string ⟨#[]⟩, .slice none 0 0, .string x] from
                    ⟨none, 0, by rw [HX.out.to]; rfl, Nat.le_refl 0, RdP.nil _ _ _ _⟩)
                  skip
                  go_wp2_with (at_builtin; go_must (refine wpList_push_at rfl _ _ _ rfl w.heap.size rowTk A6 (D.length + 1) c6 xs6 rfl (by have h := st5.own; rw [List.length_append] at h; exact h) [.int .i64 3, .string ⟨#[]⟩, .slice none 0 0, .string x] 1 rfl rfl (by simp [Value.oneCell']) (by unfold maxLen; omega) (by omega) st5.bel.size ?_))
                  intro A7 c7 w7 hc7 ho7 hg7 hat7
                  have st7 := st5.push HZ.out (by rw [HLEN.out]; exact hg7) (by rw [HLEN.out]; exact ho7) (by rw [HLEN.out]; exact hc7) (by rw [HLEN.out]; exact hat7)
                  clear hg7 ho7 hat7
                  go_wp2
                  go_roundw
                  case rel =>
                    refine ⟨y2, (rest.drop n).drop (e0), D ++ [tg] ++ [charTk ((rest.drop n).take (e0))], A7, c7, _, rfl, HW.out, by simp, st7, ?_, by rw [List.length_drop, List.length_drop]; omega, ?_⟩
                    · rw [List.append_assoc, List.append_assoc, ← HALL.out, HRD.out, HR3.out]; rfl
                    · rw [HR3.out] at hless
                      simp only [List.length_drop, List.length_append, List.length_cons, List.length_nil] at hless ⊢
                      omega
                  case measure =>
                    rw [HR3.out] at hless
                    have := HW.out.size
                    simp only [List.length_drop] at hless this
                    have := HTZ.out
                    simp [strLen]
                    omega
                · have HR3 := Lib.hid (show tokRound rest = ([tg], (rest.drop n).drop (e0)) by
                    rw [HR4.out, if_pos ⟨HK1.out, HRAW.out⟩, HN.out, if_neg h0])
                  have h0i : ¬ (0 : Int) < ((e0 : Nat) : Int) := by omega
                  generalize hwe : y.extract (e0) y.size = y2 at *
                  skip
                  go_wp2
                  go_roundw
                  case rel =>
                    refine ⟨y2, (rest.drop n).drop (e0), D ++ [tg], A6, c6, _, rfl, HW.out, by simp, st5, ?_, by rw [List.length_drop, List.length_drop]; omega, ?_⟩
                    · rw [List.append_assoc, ← HALL.out, HRD.out, HR3.out]
                    · rw [HR3.out] at hless
                      simp only [List.length_drop, List.length_append, List.length_cons, List.length_nil] at hless ⊢
                      omega
                  case measure =>
                    rw [HR3.out] at hless
                    have := HW.out.size
                    simp only [List.length_drop] at hless this
                    have := HTZ.out
                    simp [strLen]
                    omega
          · have q1 : (tg.kind == 1) = false := by rw [beq_eq_false_iff_ne]; exact hk1
            have HR3 := Lib.hid (show tokRound rest = ([tg], rest.drop n) by rw [HR4.out, if_neg (fun h => hk1 h.1)])
            clear hk1
            go_wp2
            go_roundw
            case rel =>
              refine ⟨y, rest.drop n, D ++ [tg], A6, c6, _, rfl, HY.out, by simp, st6, ?_, by rw [List.length_drop]; omega, ?_⟩
              · rw [List.append_assoc, ← HALL.out, HRD.out, HR3.out]
              · rw [HLEN.out, List.length_drop]; omega
            case measure =>
              have := HY.out.size
              rw [List.length_drop] at this
              have := HTZ.out
              simp [strLen]
              omega
end Go.Proofs.YtnkelhmjkmeilaaGreatDoor
end
section
namespace Go.Proofs.YtnkelhmjkmeilaaGreatDoor
open Go.RowKit
theorem fix_skip (t : List Int) : fix true (10 :: t) = fix false t := by simp [fix]
theorem fix_return (ret : Bool) (t : List Int) : fix ret (13 :: t) = 10 :: fix true t := by simp [fix]
theorem fix_zero (ret : Bool) (t : List Int) : fix ret (0 :: t) = 65533 :: fix false t := by simp [fix]
theorem fix_other {ret : Bool} {r : Int} (t : List Int) (h10 : r = 10 → ret = false) (h13 : r ≠ 13) (h0 : r ≠ 0) : fix ret (r :: t) = r :: fix false t := by
  have e : (r == 13) = false := by simp [h13]
  simp only [fix, e]
  rw [if_neg (fun h => by have := h10 h.1; rw [this] at h; cases h.2), if_neg h13, if_neg h0]
  rfl
theorem enc_ret : Lib.encodeRune 10 = [10] := by decide
set_option maxHeartbeats 1000000 in
theorem Right_any {w : World} {n c : Nat} {A : Option Addr} {l : List UInt8} (hr : Rd w w.heap.size 1 A n (Lib.byteCells l)) (hn : n ≤ 1000000) :
    Calls Tryz.prog 285 #[.slice A n c] w fun e w' => ∃ t, e = .returned (.string t) ∧ IsStr t (right l) ∧ Below w.heap.size w w' := by
  have hl : l.length = n := by rw [← hr.len, Lib.byteCells_length]
  obtain ⟨s, hs⟩ : ∃ s, IsStr s l := ⟨_, IsStr.mk l⟩
  have hss : s.size = n := by rw [hs.size, hl]
  have hcv := fun c => run_bytes_str (P := Tryz.prog) (hr.alloc (Nat.le_refl _) (.cells #[.pointer none, .slice none 0 0] 39)) 23 5 9 c Tryz.underlying23 Tryz.underlying5 Tryz.underlying9
  rw [← hs.to] at hcv
  have HS := Lib.hid hs
  have HSS := Lib.hid hss
  have hsb : s.size ≤ 1000000 := by omega
  clear hs hss
  go_enter Tryz.func285, Tryz.ntmps285
  go_wp2
  clear hcv
  have hs := HS.out
  have hss := HSS.out
  go_loopw [4] (fun v wr => ∃ (pos : Nat) (acc : List UInt8) (ret : Bool), v = .bool ret ∧ Bld w.heap.size w.heap.size acc wr ∧ wr.heap[w.heap.size + 1]? = some (.stringIter s pos) ∧ Below w.heap.size w wr ∧
      acc ++ enc (fix ret (runes (l.drop pos))) = right l ∧ acc.length ≤ 4 * pos) (fun _ wr => s.size - wr.iterPos (w.heap.size + 1))
  case atStart =>
    refine ⟨0, [], false, rfl, (Bld.fresh w).alloc _, ?_, ((Below.refl _ w).alloc (Nat.le_refl _) _).alloc (by simp) _, rfl, Nat.le_refl _⟩
    have := World.iter_heap (w.alloc (.cells #[.pointer none, .slice none 0 0] 39)) s 0
    simpa using this
  case round =>
    obtain ⟨pos, acc, ret, rfl, hB, hit, hbw, hacc, hal⟩ := hrel
    have hsz : w.heap.size + 1 < wr.heap.size := (Array.getElem?_eq_some_iff.1 hit).1
    by_cases hp : pos < s.size
    · have hnx : ∀ ty, (Instr.next (.pointer (some ⟨w.heap.size + 1, 0, none⟩)) true ty).run Tryz.prog wr = _ := fun ty => Lib.run_next_any_at wr (w.heap.size + 1) s pos ty hit hp
      have hwd := Lib.width_pos s pos
      have hd1 := decode_le s pos
      have hne : l.drop pos ≠ [] := by intro e; have := congrArg List.length e; simp at this; omega
      have hst := runes_step _ hne
      rw [← decode_str hs, List.drop_drop] at hst
      have hB2 := hB.iterAt hit (pos + (Utf8.decode s pos).2)
      have hit2 := Lib.iterAt_heap wr (w.heap.size + 1) s pos (pos + (Utf8.decode s pos).2) hit
      have hbw2 := Lib.below_iterAt hbw (k := w.heap.size + 1) (by omega) s (pos + (Utf8.decode s pos).2)
      have hsz2 : w.heap.size ≤ (wr.iterAt (w.heap.size + 1) s (pos + (Utf8.decode s pos).2)).heap.size := by rw [Lib.iterAt_size]; omega
      rw [hst] at hacc
      have HACC := Lib.hid hacc
      have hmeas : wr.iterPos (w.heap.size + 1) = pos := by simp only [World.iterPos, hit]
      have HM := Lib.hid hmeas
      clear hacc hst hs hss hl hne hmeas hB hbw
      generalize hW2 : wr.iterAt (w.heap.size + 1) s (pos + (Utf8.decode s pos).2) = W2 at *
      have HW2 := Lib.hid hW2
      clear hW2
      generalize (Utf8.decode s pos).1 = r at *
      generalize (Utf8.decode s pos).2 = wd at *
      by_cases h13 : r = 13
      · subst h13
        go_wp2_with (go_at_call 32; refine (WriteByte_any 10 hB2 (by omega) hsz2).mono ?_; rintro e W1 ⟨rfl, h1, b1, k1⟩)
        have hit3 := k1.iter hit2 (by omega)
        go_roundw
        case rel =>
          refine ⟨pos + wd, acc ++ [10], true, rfl, h1, hit3, hbw2.trans b1, ?_, by simp; omega⟩
          rw [← HACC.out, show ((13 : Nat) : Int) = 13 from rfl, fix_return, enc_cons, enc_ret]
          simp
        case measure =>
          rw [HM.out]
          simp only [World.iterPos, hit3]
          omega
      · by_cases h0 : r = 0
        · subst h0
          go_wp2_with (go_at_call 286; refine (WriteRune_any 65533 (by omega) (by omega) hB2 (by omega) hsz2).mono ?_; rintro e W1 ⟨rfl, h1, b1, k1⟩)
          have hit3 := k1.iter hit2 (by omega)
          go_roundw
          case rel =>
            refine ⟨pos + wd, acc ++ Lib.encodeRune 65533, false, rfl, h1, hit3, hbw2.trans b1, ?_, by have := encodeRune_length 65533; simp; omega⟩
            rw [← HACC.out, show ((0 : Nat) : Int) = 0 from rfl, fix_zero, enc_cons]
            simp
          case measure =>
            rw [HM.out]
            simp only [World.iterPos, hit3]
            omega
        · have e13 : ((r : Int) == 13) = false := by simp; omega
          have e0 : ((r : Int) == 0) = false := by simp; omega
          by_cases h10 : r = 10 ∧ ret = true
          · obtain ⟨rfl, rfl⟩ := h10
            go_wp2
            go_roundw
            case rel =>
              refine ⟨pos + wd, acc, false, rfl, hB2, hit2, hbw2, ?_, by omega⟩
              rw [← HACC.out, show ((10 : Nat) : Int) = 10 from rfl, fix_skip]
            case measure =>
              rw [HM.out]
              simp only [World.iterPos, hit2]
              omega
          · have hfix : fix ret ((r : Int) :: runes (l.drop (pos + wd))) = (r : Int) :: fix false (runes (l.drop (pos + wd))) :=
              fix_other _ (fun h => by cases ret with | false => rfl | true => exact absurd ⟨by omega, rfl⟩ h10) (by omega) (by omega)
            have HF := Lib.hid hfix
            clear hfix
            have hq : ∀ (W1 : World), Bld w.heap.size w.heap.size (acc ++ Lib.encodeRune r) W1 → Below w.heap.size W2 W1 → Oth w.heap.size W2 W1 →
                W1.heap[w.heap.size + 1]? = some (.stringIter s (pos + wd)) ∧ acc ++ Lib.encodeRune r ++ enc (fix false (runes (l.drop (pos + wd)))) = right l ∧ (acc ++ Lib.encodeRune r).length ≤ 4 * (pos + wd) := by
              intro W1 h1 b1 k1
              refine ⟨k1.iter hit2 (by omega), ?_, by have := encodeRune_length (r : Int); simp; omega⟩
              rw [← HACC.out, HF.out, enc_cons]
              simp
            have HQ := Lib.hid hq
            clear hq
            cases ret with
            | false =>
              by_cases h10' : r = 10
              all_goals
                go_wp2_with (go_at_call 286; refine (WriteRune_any _ (by omega) (by omega) hB2 (by omega) hsz2).mono ?_; rintro e W1 ⟨rfl, h1, b1, k1⟩)
                obtain ⟨hit3, q2, q3⟩ := HQ.out W1 (by first | exact h1 | (subst h10'; exact h1)) b1 k1
                have Q2 := Lib.hid q2
                clear q2
                go_roundw
                case rel => exact ⟨pos + wd, acc ++ Lib.encodeRune r, false, rfl, (by first | exact h1 | (subst h10'; exact h1)), hit3, hbw2.trans b1, Q2.out, q3⟩
                case measure =>
                  rw [HM.out]
                  simp only [World.iterPos, hit3]
                  omega
            | true =>
              have e10 : ((r : Int) == 10) = false := by simp; intro e; exact h10 ⟨by omega, rfl⟩
              go_wp2_with (go_at_call 286; refine (WriteRune_any _ (by omega) (by omega) hB2 (by omega) hsz2).mono ?_; rintro e W1 ⟨rfl, h1, b1, k1⟩)
              obtain ⟨hit3, q2, q3⟩ := HQ.out W1 h1 b1 k1
              have Q2 := Lib.hid q2
              clear q2
              go_roundw
              case rel => exact ⟨pos + wd, acc ++ Lib.encodeRune r, false, rfl, h1, hit3, hbw2.trans b1, Q2.out, q3⟩
              case measure =>
                rw [HM.out]
                simp only [World.iterPos, hit3]
                omega
    · have hnx : ∀ ty, (Instr.next (.pointer (some ⟨w.heap.size + 1, 0, none⟩)) true ty).run Tryz.prog wr = _ := fun ty => Lib.run_next_end_at wr (w.heap.size + 1) s pos ty hit hp
      have he : acc = right l := by
        rw [← hacc, List.drop_of_length_le (by omega), runes_nil]
        simp [fix, enc]
      have HE := Lib.hid he
      clear hss hl he hacc
      go_wp2_with (go_at_call 18; refine (BString_any hB (by omega)).mono ?_; rintro e W1 ⟨t, rfl, ht, _, b1, _⟩)
      go_ret
      exact ⟨t, rfl, HE.out ▸ ht, hbw.trans b1⟩
end Go.Proofs.YtnkelhmjkmeilaaGreatDoor
end
section
namespace Go.Proofs.YtnkelhmjkmeilaaGreatDoor
open Go.RowKit
set_option maxHeartbeats 1000000 in
set_option maxRecDepth 100000 in
theorem REscape_any {w : World} {s : ByteArray} {l : List UInt8} (hs : IsStr s l) (hl : l.length ≤ 1000000) (v : Bool) :
    Calls Tryz.prog 20 #[.string s, .bool v] w fun e w' => ∃ t, e = .returned (.string t) ∧ IsStr t (esc v l) ∧ Below w.heap.size w w' := by
  have hsz := hs.size
  have hsb : s.size ≤ 1000000 := by omega
  have HS := Lib.hid hs
  have HSZ := Lib.hid hsz
  clear hs hsz
  go_enter Tryz.func20, Tryz.ntmps20
  go_wp2
  go_loopw [5, 6] (fun o i wr => ∃ (k : Nat) (t : ByteArray) (acc : List UInt8), o = .string t ∧ i = .int .i64 k ∧ k ≤ s.size ∧ IsStr t acc ∧ Below w.heap.size w wr ∧ acc = esc v (l.take k)) (fun _ i _ => s.size - (intOf i).toNat)
  case atStart => exact ⟨0, _, [], rfl, rfl, Nat.zero_le _, rfl, Below.refl _ w, rfl⟩
  case round =>
    obtain ⟨k, t, acc, rfl, rfl, hk, ht, hbw, hacc⟩ := hrel
    have hsz := HSZ.out
    have hal : acc.length ≤ 6000000 := by
      rw [hacc]
      have := (esc_length v (l.take k)).2
      rw [List.length_take] at this
      omega
    have hts := ht.size
    have htb : t.size ≤ 6000000 := by omega
    by_cases hlt : k < s.size
    · have hkl : k < l.length := by omega
      have e1 := s_byte HS.out k hlt hkl
      have hnext := esc_next v hkl
      rw [← hacc, ← e1] at hnext
      have HN := Lib.hid hnext
      have HT := Lib.hid ht
      have hone : IsStr (s.extract k (k + 1)) [s[k]] := by
        have := s_part HS.out k (k + 1)
        rw [List.drop_eq_getElem_cons hkl, show k + 1 - k = 1 by omega, List.take_succ_cons, List.take_zero, ← e1] at this
        exact this
      have HO := Lib.hid hone
      clear hnext hacc e1 hsz ht hts hone
      generalize hc : s[k] = c at *
      by_cases h1 : c = 38
      · subst h1
        go_wp2
        go_roundw
        case rel => exact ⟨k + 1, _, _, rfl, by go_num, by omega, s_append (u := ⟨#[38, 97, 109, 112, 59]⟩) (m := [38, 97, 109, 112, 59]) HT.out rfl, hbw, HN.out.symm⟩
        case measure => simp [intOf]; omega
      · have q1 : ((c.toNat : Int) == 38) = false := u8_beq h1
        by_cases h2 : c = 60
        · subst h2
          go_wp2
          go_roundw
          case rel => exact ⟨k + 1, _, _, rfl, by go_num, by omega, s_append (u := ⟨#[38, 108, 116, 59]⟩) (m := [38, 108, 116, 59]) HT.out rfl, hbw, HN.out.symm⟩
          case measure => simp [intOf]; omega
        · have q2 : ((c.toNat : Int) == 60) = false := u8_beq h2
          by_cases h3 : c = 62
          · subst h3
            go_wp2
            go_roundw
            case rel => exact ⟨k + 1, _, _, rfl, by go_num, by omega, s_append (u := ⟨#[38, 103, 116, 59]⟩) (m := [38, 103, 116, 59]) HT.out rfl, hbw, HN.out.symm⟩
            case measure => simp [intOf]; omega
          · have q3 : ((c.toNat : Int) == 62) = false := u8_beq h3
            by_cases h4 : c = 34
            · subst h4
              cases v with
              | true =>
                go_wp2
                go_roundw
                case rel => exact ⟨k + 1, _, _, rfl, by go_num, by omega, s_append (u := ⟨#[38, 113, 117, 111, 116, 59]⟩) (m := [38, 113, 117, 111, 116, 59]) HT.out rfl, hbw, HN.out.symm⟩
                case measure => simp [intOf]; omega
              | false =>
                go_wp2
                go_roundw
                case rel => exact ⟨k + 1, _, _, rfl, by go_num, by omega, s_append HT.out HO.out, hbw, HN.out.symm⟩
                case measure => simp [intOf]; omega
            · have q4 : ((c.toNat : Int) == 34) = false := u8_beq h4
              have HE := Lib.hid (escB_one v h1 h2 h3 (fun h => h4 h.1))
              clear h1 h2 h3 h4
              go_wp2
              go_roundw
              case rel => exact ⟨k + 1, _, _, rfl, by go_num, by omega, s_append HT.out HO.out, hbw, by rw [HN.out, HE.out]⟩
              case measure => simp [intOf]; omega
    · have HE := Lib.hid (show acc = esc v l by rw [hacc, List.take_of_length_le (by omega)])
      have HT := Lib.hid ht
      clear hacc hsz ht hts
      go_wp2
      go_ret
      exact ⟨t, rfl, HE.out ▸ HT.out, hbw⟩
end Go.Proofs.YtnkelhmjkmeilaaGreatDoor
end
