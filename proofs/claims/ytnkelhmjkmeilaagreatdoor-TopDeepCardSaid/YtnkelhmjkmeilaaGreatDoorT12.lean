/- Plain: where a raw element ends. The package token: Ends. Plain: a text's tokens, a round at a time. Tokens in memory: four cells each; rows of them that a call makes itself. -/
import Derived.Test.YtnkelhmjkmeilaaGreatDoorT11
import Derived.Test.YtnkelhmjkmeilaaGreatDoorT09
section
namespace Go.Proofs.YtnkelhmjkmeilaaGreatDoor
theorem endsL_ge (name : List UInt8) : ∀ l : List UInt8, -1 ≤ endsL l name
  | [] => by simp [endsL]
  | c :: t => by
    have := endsL_ge name t
    simp only [endsL]
    split
    · omega
    · split <;> omega
theorem endsL_skip (name : List UInt8) : ∀ (i : Nat) (l : List UInt8), i ≤ l.length → (∀ k, k < i → endsAt (l.drop k) name = false) → endsL l name = if endsL (l.drop i) name < 0 then -1 else endsL (l.drop i) name + i
  | 0, l, _, _ => by
    have := endsL_ge name l
    simp only [List.drop_zero]
    split <;> omega
  | i + 1, [], h, _ => by simp at h
  | i + 1, c :: t, h, hn => by
    have h0 : endsAt (c :: t) name = false := hn 0 (by omega)
    have ih := endsL_skip name i t (by simpa using h) (fun k hk => by simpa using hn (k + 1) (by omega))
    simp only [endsL, h0, Bool.false_eq_true, if_false, List.drop_succ_cons]
    rw [ih]
    have := endsL_ge name (t.drop i)
    split
    · simp
    · split <;> omega
theorem endsAt_two {l name : List UInt8} (h : endsAt l name = true) : Lib.occAt l [60, 47] 0 = true := by
  match l with
  | [] => simp [endsAt] at h
  | [c] => simp [endsAt] at h
  | a :: b :: t =>
    simp only [endsAt, Bool.and_eq_true, beq_iff_eq] at h
    have h1 : a = 60 := UInt8.toNat_inj.1 (by rw [h.1]; rfl)
    have h2 : b = 47 := UInt8.toNat_inj.1 (by rw [h.2.1]; rfl)
    subst h1; subst h2
    rfl
theorem occ_drop {l sub : List UInt8} {k : Nat} : Lib.occAt (l.drop k) sub 0 = Lib.occAt l sub k := by simp [Lib.occAt]
theorem occ_form {l : List UInt8} {j : Nat} (h : Lib.occAt l [60, 47] j = true) : l.drop j = 60 :: 47 :: l.drop (j + 2) := by
  have h1 := List.isPrefixOf_iff_prefix.1 h
  obtain ⟨t, ht⟩ := h1
  have : l.drop (j + 2) = t := by
    rw [← List.drop_drop, ← ht]; rfl
  rw [this, ← ht]; rfl
theorem ends_none {l name : List UInt8} (h : Lib.index l [60, 47] < 0) : endsL l name = -1 := by
  rcases Lib.index_spec l [60, 47] with ⟨_, h2⟩ | ⟨i, h1, _⟩
  · have := endsL_skip name l.length l (Nat.le_refl _) (fun k hk => by
      rw [← Bool.not_eq_true]
      intro he
      have := endsAt_two he
      rw [occ_drop, h2 k (by omega)] at this
      cases this)
    rw [this]
    simp [endsL]
  · omega
def endsHere (l name : List UInt8) (j : Nat) : Bool := prefixed (l.drop (j + 2)) name && (match (l.drop (j + 2))[name.length]? with
  | none => false
  | some c => blk c || (c.toNat == 47 || c.toNat == 62))
theorem ends_some {l name : List UInt8} {j : Nat} (h : Lib.index l [60, 47] = j) : j + 2 ≤ l.length ∧ (endsHere l name j = true → endsL l name = j) ∧
    (endsHere l name j = false → endsL l name = if endsL (l.drop (j + 2)) name < 0 then -1 else endsL (l.drop (j + 2)) name + (j + 2 : Nat)) := by
  have hr := Lib.index_room l [60, 47] (by omega)
  simp only [List.length_cons, List.length_nil] at hr
  have hj2 : j + 2 ≤ l.length := by omega
  rcases Lib.index_spec l [60, 47] with ⟨h1, _⟩ | ⟨i, h1, hi, ho, hno⟩
  · omega
  · obtain rfl : i = j := by omega
    have hf := occ_form ho
    have hbefore : ∀ k, k < i → endsAt (l.drop k) name = false := fun k hk => by
      rw [← Bool.not_eq_true]
      intro he
      have := endsAt_two he
      rw [occ_drop, hno k hk] at this
      cases this
    have hat : endsAt (l.drop i) name = endsHere l name i := by
      rw [hf]
      simp only [endsAt, endsHere]
      rfl
    refine ⟨hj2, fun hy => ?_, fun hn => ?_⟩
    · rw [endsL_skip name i l (by omega) hbefore]
      have : endsL (l.drop i) name = 0 := by
        rw [hf] at hat ⊢
        simp only [endsL, hat, hy, if_true]
      rw [this]; simp
    · refine endsL_skip name (i + 2) l hj2 (fun k hk => ?_)
      by_cases h3 : k < i
      · exact hbefore k h3
      · by_cases h4 : k = i
        · subst h4; rw [hat, hn]
        · have h5 : k = i + 1 := by omega
          subst h5
          have : l.drop (i + 1) = 47 :: l.drop (i + 2) := by
            rw [← List.drop_drop, hf]; rfl
          rw [this, ← Bool.not_eq_true]
          intro he
          have := endsAt_two he
          simp [Lib.occAt] at this
end Go.Proofs.YtnkelhmjkmeilaaGreatDoor
namespace Go.Proofs.YtnkelhmjkmeilaaGreatDoor
open Go.RowKit
set_option maxHeartbeats 1000000 in
set_option maxRecDepth 100000 in
theorem Ends_any {w : World} {s t : ByteArray} {l name : List UInt8} (hs : IsStr s l) (hl : l.length ≤ 1000000) (ht : IsStr t name) (hn : name.length ≤ 1000000) (hM : M0 w) :
    Calls Tryz.prog 318 #[.string s, .string t] w fun e w' => e = .returned (.int .i64 (endsL l name)) ∧ Below w.heap.size w w' := by
  have hss := hs.size
  have htt := ht.size
  have hsb : s.size ≤ 1000000 := by omega
  have htb : t.size ≤ 1000000 := by omega
  have HS := Lib.hid hs
  have HT := Lib.hid ht
  have HSS := Lib.hid hss
  have HTT := Lib.hid htt
  have HM := Lib.hid hM
  clear hs ht hss htt hM
  go_enter Tryz.func318, Tryz.ntmps318
  go_wp2
  go_loopw [5] (fun iv wr => ∃ k : Nat, iv = .int .i64 k ∧ k ≤ s.size ∧ endsL l name = (if endsL (l.drop k) name < 0 then -1 else endsL (l.drop k) name + k) ∧ Below w.heap.size w wr) (fun iv _ => s.size - (intOf iv).toNat)
  case atStart =>
    refine ⟨0, rfl, Nat.zero_le _, ?_, Below.refl _ _⟩
    have := endsL_ge name l
    simp only [List.drop_zero]
    split <;> omega
  case round =>
    obtain ⟨k, rfl, hk, hend, hb⟩ := hrel
    have HE := Lib.hid hend
    have hM1 := HM.out.below hb
    have hd := s_drop HS.out k
    have hdl : (l.drop k).length ≤ 1000000 := by rw [List.length_drop]; omega
    have hdz : (l.drop k).length = s.size - k := by rw [List.length_drop, HSS.out]
    clear hend
    generalize hde : s.extract k s.size = d at *
    go_wp2_with fail
    refine (Ix_any (sub := [60, 47]) hd hdl hM1).mono ?_
    rintro e W1 ⟨rfl, rfl⟩
    clear hd hde
    by_cases hj : Lib.index (l.drop k) [60, 47] < 0
    · have HR := Lib.hid (show endsL l name = -1 by rw [HE.out, ends_none hj]; rfl)
      generalize Lib.index (l.drop k) [60, 47] = j at *
      go_wp2
      go_ret
      exact ⟨ret_int (by rw [HR.out]), hb⟩
    · obtain ⟨j, hje⟩ : ∃ j : Nat, Lib.index (l.drop k) [60, 47] = j := ⟨_, (Int.toNat_of_nonneg (by omega)).symm⟩
      obtain ⟨hj2, hyes, hnot⟩ := ends_some (name := name) hje
      rw [hje]
      have hkj : k + j + 2 ≤ s.size := by omega
      have hdd : (l.drop k).drop (j + 2) = l.drop (k + j + 2) := by rw [List.drop_drop]; congr 1
      have HYES := Lib.hid (fun h => show endsL l name = (k : Int) + j by
        rw [HE.out, hyes h, if_neg (by omega)]; omega)
      have HNOT := Lib.hid (fun h => show endsL l name = (if endsL (l.drop (k + j + 2)) name < 0 then -1 else endsL (l.drop (k + j + 2)) name + (k + j + 2 : Nat)) by
        rw [HE.out, hnot h, hdd]
        have := endsL_ge name (l.drop (k + j + 2))
        split
        · rfl
        · split <;> omega)
      have HHERE := Lib.hid (show endsHere (l.drop k) name j = (prefixed (l.drop (k + j + 2)) name && (match (l.drop (k + j + 2))[name.length]? with
          | none => false
          | some c => blk c || (c.toNat == 47 || c.toNat == 62))) by unfold endsHere; rw [hdd]; try rfl)
      have hr := s_drop HS.out (k + j + 2)
      have hrl : (l.drop (k + j + 2)).length ≤ 1000000 := by rw [List.length_drop]; omega
      have hrz := hr.size
      have hrz2 : s.size - (k + j + 2) = (l.drop (k + j + 2)).length := by rw [List.length_drop, HSS.out]
      clear hyes hnot hdd hje hj HE hM1 hj2 hdl hdz
      generalize hme : l.drop (k + j + 2) = m at *
      generalize hre : s.extract (k + j + 2) s.size = r at *
      by_cases heq : r.size = t.size
      · have HN := Lib.hid (HNOT.out (by
          rw [HHERE.out, List.getElem?_eq_none (by have := HTT.out; omega)]; simp))
        go_wp2
        go_roundw
        case rel => exact ⟨k + j + 2, by go_num, hkj, by rw [hme]; exact HN.out, hb⟩
        case measure => simp [intOf]; omega
      · have qe : ((r.size : Int) == (t.size : Int)) = false := by rw [beq_eq_false_iff_ne]; omega
        go_wp2_with fail
        refine (Prefix_any hr HT.out hrl hn).mono ?_
        rintro e W2 ⟨rfl, b2⟩
        have hb2 := hb.trans (b2.mono hb.size)
        cases hp : prefixed m name with
        | false =>
          have HN := Lib.hid (HNOT.out (by rw [HHERE.out, hp]; rfl))
          clear hp
          go_wp2
          go_roundw
          case rel => exact ⟨k + j + 2, by go_num, hkj, by rw [hme]; exact HN.out, hb2⟩
          case measure => simp [intOf]; omega
        | true =>
          have hle : name.length ≤ m.length := by
            simp only [prefixed, Bool.and_eq_true, decide_eq_true_eq] at hp
            exact hp.1
          have hlt : name.length < m.length := by have := HTT.out; omega
          have hrt : t.size < r.size := by have := HTT.out; omega
          have e1 := s_byte hr t.size hrt (by have := HTT.out; omega)
          have e2 : m[name.length]? = some (m[t.size]'(by have := HTT.out; omega)) := by
            have h := HTT.out
            rw [List.getElem?_eq_getElem hlt]
            congr 1
            simp only [h]
          generalize m[t.size]'(by have := HTT.out; omega) = c at *
          have HH := Lib.hid (show endsHere (l.drop k) name j = (blk c || (c.toNat == 47 || c.toNat == 62)) by rw [HHERE.out, hp, e2]; rfl)
          have hw : RowKit.wrap32 (c.toNat : Int) = c.toNat := IntWalk.wrap32_in _ (by have := c.toNat_lt; omega)
          generalize hcc : r[t.size] = cc at *
          obtain rfl : c = cc := e1.symm
          clear hp e2 hle hlt
          go_wp2_with fail
          refine (blankB_any c _).mono ?_
          rintro e W3 ⟨rfl, rfl⟩
          cases hbl : blk c with
          | true =>
            have HY := Lib.hid (HYES.out (by rw [HH.out, hbl]; rfl))
            clear hbl
            go_wp2
            go_ret
            exact ⟨ret_int HY.out.symm, hb2⟩
          | false =>
            by_cases h1 : c.toNat = 47
            · have q1 : ((c.toNat : Int) == 47) = true := by rw [h1]; rfl
              have HY := Lib.hid (HYES.out (by rw [HH.out, hbl, h1]; rfl))
              clear hbl h1
              go_wp2
              go_ret
              exact ⟨ret_int HY.out.symm, hb2⟩
            · have q1 : ((c.toNat : Int) == 47) = false := by rw [beq_eq_false_iff_ne]; omega
              by_cases h2 : c.toNat = 62
              · have q2 : ((c.toNat : Int) == 62) = true := by rw [h2]; rfl
                have HY := Lib.hid (HYES.out (by rw [HH.out, hbl, h2]; rfl))
                clear hbl h1 h2
                go_wp2
                go_ret
                exact ⟨ret_int HY.out.symm, hb2⟩
              · have q2 : ((c.toNat : Int) == 62) = false := by rw [beq_eq_false_iff_ne]; omega
                have HN := Lib.hid (HNOT.out (by rw [HH.out, hbl, show (c.toNat == 47) = false by simpa using h1, show (c.toNat == 62) = false by simpa using h2]; rfl))
                clear hbl h1 h2
                go_wp2
                go_roundw
                case rel => exact ⟨k + j + 2, by go_num, hkj, by rw [hme]; exact HN.out, hb2⟩
                case measure => simp [intOf]; omega
end Go.Proofs.YtnkelhmjkmeilaaGreatDoor
end
section
namespace Go.Proofs.YtnkelhmjkmeilaaGreatDoor
theorem cmtL_le {l : List UInt8} (h2 : 2 ≤ l.length) : 1 ≤ (cmtL l).2 ∧ (cmtL l).2 ≤ l.length := by
  unfold cmtL
  split
  · rename_i hp
    have h4 := hasPrefix_len hp
    simp only [List.length_cons, List.length_nil] at h4
    split
    · simp only []; omega
    · have := Lib.index_room (l.drop 4) [45, 45, 62] (by omega)
      simp only [List.length_drop, List.length_cons, List.length_nil] at this ⊢
      omega
  · split
    · simp only []; omega
    · have := Lib.index_room (l.drop 2) [62] (by omega)
      simp only [List.length_drop, List.length_cons, List.length_nil] at this ⊢
      omega
theorem endL_le {l : List UInt8} (h2 : 2 ≤ l.length) : 1 ≤ (endL l).2 ∧ (endL l).2 ≤ l.length := by
  unfold endL
  split
  · split
    · rename_i hp
      have := hasPrefix_len hp
      simp only [List.length_cons, List.length_nil] at this ⊢
      omega
    · exact cmtL_le h2
  · split
    · simp only []; omega
    · obtain ⟨j, hje⟩ : ∃ j : Nat, Lib.indexByte l 62 = j := ⟨_, (Int.toNat_of_nonneg (by omega)).symm⟩
      have hjl : j < l.length := (List.getElem?_eq_some_iff.1 (Lib.indexByte_some hje).1).1
      rw [hje]
      simp only [Int.toNat_natCast]
      omega
theorem begF_le : ∀ (f : Nat) (l : List UInt8) (i : Nat) (acc : List Atr) (r : List Atr) (n : Nat), i ≤ l.length → begF f l i acc = some (r, n) → 1 ≤ n ∧ n ≤ l.length
  | 0, _, _, _, _, _, _, h => by simp [begF] at h
  | f + 1, l, i, acc, r, n, hi, h => by
    obtain ⟨j, hj⟩ : ∃ j, j = i + spanL skB (l.drop i) := ⟨_, rfl⟩
    have hjl : j ≤ l.length := by
      have := spanL_le skB (l.drop i)
      rw [List.length_drop] at this
      omega
    by_cases h1 : l.length ≤ j
    · rw [begF_end hj h1] at h; cases h
    · have h2 : j < l.length := by omega
      by_cases hc : l[j].toNat = 62
      · rw [begF_stop hj h2 hc] at h
        injection h with h
        injection h with _ h
        omega
      · obtain ⟨h3, h4⟩ := atL_next hj h2 hc
        rw [begF_go hj h2 hc] at h
        exact begF_le f l _ _ r n h4 h
theorem begL_le {l : List UInt8} (h2 : 2 ≤ l.length) : 1 ≤ (begL l).2 ∧ (begL l).2 ≤ l.length := by
  unfold begL
  have ht := titleL_le (l.drop 1)
  rw [List.length_drop] at ht
  cases hb : begF (l.length + 1) l (1 + titleL (l.drop 1)) [] with
  | none => simp only []; omega
  | some p =>
    obtain ⟨r, n⟩ := p
    exact begF_le _ _ _ _ r n (by omega) hb
theorem tagL_le {l : List UInt8} (h : startsL l = true) : 1 ≤ (tagL l).2 ∧ (tagL l).2 ≤ l.length := by
  have h2 := starts_two h
  have h1 : l[1]? = some l[1] := List.getElem?_eq_getElem (by omega)
  generalize l[1] = c at h1
  by_cases hc : c.toNat = 47
  · rw [tag_2 h h1 hc]; exact endL_le h2
  · by_cases hc2 : c.toNat = 33 ∨ c.toNat = 63
    · rw [tag_3 h h1 hc2]; exact cmtL_le h2
    · rw [tag_4 h h1 hc hc2]; exact begL_le h2
theorem charL_le : ∀ l : List UInt8, charL l ≤ l.length
  | [] => by simp [charL]
  | c :: t => by
    have := charL_le t
    simp only [charL, List.length_cons]
    split <;> omega
theorem lowL_take_le (l : List UInt8) (k n : Nat) : (lowL ((l.drop k).take n)).length ≤ l.length := by
  rw [lowL, List.length_map, List.length_take, List.length_drop]; omega
theorem cmtL_name (l : List UInt8) : (cmtL l).1.name = [] := by
  unfold cmtL
  split
  · split <;> rfl
  · split <;> rfl
theorem endL_name_le (l : List UInt8) : (endL l).1.name.length ≤ l.length := by
  unfold endL
  split
  · split
    · exact Nat.zero_le _
    · rw [cmtL_name]; exact Nat.zero_le _
  · split
    · exact Nat.zero_le _
    · exact lowL_take_le l 2 _
theorem begL_name_le (l : List UInt8) : (begL l).1.name.length ≤ l.length := by
  unfold begL
  split
  · exact Nat.zero_le _
  · exact lowL_take_le l 1 _
theorem tagL_name_le (l : List UInt8) : (tagL l).1.name.length ≤ l.length := by
  cases h : startsL l with
  | false => rw [tag_1 h]; exact Nat.zero_le _
  | true =>
    have h2 := starts_two h
    have h1 : l[1]? = some l[1] := List.getElem?_eq_getElem (by omega)
    generalize l[1] = c at h1
    by_cases hc : c.toNat = 47
    · rw [tag_2 h h1 hc]; exact endL_name_le l
    · by_cases hc2 : c.toNat = 33 ∨ c.toNat = 63
      · rw [tag_3 h h1 hc2, cmtL_name]; exact Nat.zero_le _
      · rw [tag_4 h h1 hc hc2]; exact begL_name_le l
def charTk (x : List UInt8) : Tk := ⟨3, [], [], x⟩
def rawN (s name : List UInt8) : Nat := if endsL s name < 0 then s.length else (endsL s name).toNat
def tokRound (l : List UInt8) : List Tk × List UInt8 :=
  if (tagL l).2 = 0 then ([charTk (dec (l.take (charL l)))], l.drop (charL l))
  else if (tagL l).1.kind = 0 then ([], l.drop (tagL l).2)
  else if (tagL l).1.kind = 1 ∧ rawL (tagL l).1.name = true then
    ((tagL l).1 :: (if 0 < rawN (l.drop (tagL l).2) (tagL l).1.name then [charTk ((l.drop (tagL l).2).take (rawN (l.drop (tagL l).2) (tagL l).1.name))] else []),
      (l.drop (tagL l).2).drop (rawN (l.drop (tagL l).2) (tagL l).1.name))
  else ([(tagL l).1], l.drop (tagL l).2)
theorem tag_zero {l : List UInt8} (h : (tagL l).2 = 0) : startsL l = false := by
  rw [← Bool.not_eq_true]
  intro hs
  have := tagL_le hs
  omega
theorem tag_nonzero {l : List UInt8} (h : (tagL l).2 ≠ 0) : startsL l = true := by
  cases hs : startsL l with
  | true => rfl
  | false => rw [tag_1 hs] at h; exact absurd rfl h
theorem endsL_le (name : List UInt8) : ∀ l : List UInt8, endsL l name ≤ l.length
  | [] => by simp [endsL]
  | c :: t => by
    have := endsL_le name t
    simp only [endsL, List.length_cons]
    split
    · omega
    · split <;> omega
theorem rawN_le (s name : List UInt8) : rawN s name ≤ s.length := by
  have := endsL_le name s
  unfold rawN
  split <;> omega
theorem tokRound_less {l : List UInt8} (h : l ≠ []) : (tokRound l).2.length < l.length := by
  have hl : 0 < l.length := List.length_pos_iff.2 h
  unfold tokRound
  by_cases h0 : (tagL l).2 = 0
  · rw [if_pos h0]
    have hs := tag_zero h0
    have h1 := charL_go hs h
    simp only [List.length_drop]
    omega
  · rw [if_neg h0]
    have h1 := tagL_le (tag_nonzero h0)
    split
    · simp only [List.length_drop]; omega
    · split
      · simp only [List.length_drop]; omega
      · simp only [List.length_drop]; omega
theorem tokRound_few (l : List UInt8) : (tokRound l).1.length ≤ 2 := by
  unfold tokRound
  split
  · simp
  · split
    · simp
    · split
      · simp only [List.length_cons]
        split <;> simp
      · simp
def toksF : Nat → List UInt8 → List Tk
  | 0, _ => []
  | n + 1, l => if l.isEmpty then [] else (tokRound l).1 ++ toksF n (tokRound l).2
theorem toksF_fuel : ∀ (n m : Nat) (l : List UInt8), l.length ≤ n → l.length ≤ m → toksF n l = toksF m l
  | 0, m, l, h, _ => by
    have : l = [] := List.eq_nil_of_length_eq_zero (by omega)
    subst this
    cases m <;> simp [toksF]
  | n + 1, 0, l, _, h => by
    have : l = [] := List.eq_nil_of_length_eq_zero (by omega)
    subst this
    simp [toksF]
  | n + 1, m + 1, l, hn, hm => by
    simp only [toksF]
    cases l with
    | nil => rfl
    | cons c t =>
      have hless := tokRound_less (l := c :: t) (by simp)
      rw [toksF_fuel n m _ (by omega) (by omega)]
def toksL (l : List UInt8) : List Tk := toksF l.length l
theorem toksL_nil : toksL [] = [] := rfl
theorem toksL_round {l : List UInt8} (h : l ≠ []) : toksL l = (tokRound l).1 ++ toksL (tokRound l).2 := by
  have hless := tokRound_less h
  cases l with
  | nil => exact absurd rfl h
  | cons c t =>
    unfold toksL
    rw [List.length_cons, toksF]
    simp only [List.isEmpty_cons, Bool.false_eq_true, if_false]
    rw [toksF_fuel t.length _ _ (by simp only [List.length_cons] at hless; omega) (Nat.le_refl _)]
end Go.Proofs.YtnkelhmjkmeilaaGreatDoor
namespace Go.Proofs.YtnkelhmjkmeilaaGreatDoor
open Go.RowKit
def TIs (w : World) (S : Nat → Prop) (t : Tk) (cs : List Value) : Prop := ∃ A c, cs = [.int .i64 t.kind, sv t.name, .slice A t.attrs.length c, sv t.text] ∧ t.attrs.length ≤ c ∧ RdP w S 2 A t.attrs.length (atrCells t.attrs)
def TsIs (w : World) (S : Nat → Prop) : List Tk → List Value → Prop
  | [], cs => cs = []
  | t :: l, cs => ∃ a b, cs = a ++ b ∧ TIs w S t a ∧ TsIs w S l b
section
variable {w w' : World} {S S' : Nat → Prop}
theorem TIs.keep (hk : ∀ p : Addr, S p.block → w'.cell? p = w.cell? p) {t : Tk} {cs : List Value} (h : TIs w S t cs) : TIs w' S t cs := by
  obtain ⟨A, c, h1, h2, h3⟩ := h
  exact ⟨A, c, h1, h2, h3.keep hk⟩
theorem TIs.more (hS : ∀ b, S b → S' b) {t : Tk} {cs : List Value} (h : TIs w S t cs) : TIs w S' t cs := by
  obtain ⟨A, c, h1, h2, h3⟩ := h
  exact ⟨A, c, h1, h2, h3.more hS⟩
theorem TIs.four {t : Tk} {cs : List Value} (h : TIs w S t cs) : cs.length = 4 := by
  obtain ⟨A, c, rfl, _⟩ := h
  rfl
theorem TIs.one {t : Tk} {cs : List Value} (h : TIs w S t cs) : ∀ u ∈ cs, u.oneCell' = true := by
  obtain ⟨A, c, rfl, _⟩ := h
  intro u hu
  simp at hu
  rcases hu with rfl | rfl | rfl | rfl <;> rfl
theorem TsIs.keep (hk : ∀ p : Addr, S p.block → w'.cell? p = w.cell? p) {l : List Tk} {cs : List Value} (h : TsIs w S l cs) : TsIs w' S l cs := by
  induction l generalizing cs with
  | nil => exact h
  | cons t l ih =>
    obtain ⟨a, b, e, h1, h2⟩ := h
    exact ⟨a, b, e, h1.keep hk, ih h2⟩
theorem TsIs.more (hS : ∀ b, S b → S' b) {l : List Tk} {cs : List Value} (h : TsIs w S l cs) : TsIs w S' l cs := by
  induction l generalizing cs with
  | nil => exact h
  | cons t l ih =>
    obtain ⟨a, b, e, h1, h2⟩ := h
    exact ⟨a, b, e, h1.more hS, ih h2⟩
theorem TsIs.len {l : List Tk} {cs : List Value} (h : TsIs w S l cs) : cs.length = l.length * 4 := by
  induction l generalizing cs with
  | nil => have h : cs = [] := h; subst h; rfl
  | cons t l ih =>
    obtain ⟨a, b, rfl, h1, h2⟩ := h
    rw [List.length_append, h1.four, ih h2, List.length_cons]
    omega
theorem TsIs.one {l : List Tk} {cs : List Value} (h : TsIs w S l cs) : ∀ u ∈ cs, u.oneCell' = true := by
  induction l generalizing cs with
  | nil => have h : cs = [] := h; subst h; intro u hu; cases hu
  | cons t l ih =>
    obtain ⟨a, b, rfl, h1, h2⟩ := h
    intro u hu
    rcases List.mem_append.1 hu with hu | hu
    · exact h1.one u hu
    · exact ih h2 u hu
theorem TsIs.append {l m : List Tk} {xs ys : List Value} (h : TsIs w S l xs) (h' : TsIs w S m ys) : TsIs w S (l ++ m) (xs ++ ys) := by
  induction l generalizing xs with
  | nil => have h : xs = [] := h; subst h; exact h'
  | cons t l ih =>
    obtain ⟨a, b, rfl, h1, h2⟩ := h
    rw [List.cons_append, List.append_assoc]
    exact ⟨a, b ++ ys, rfl, h1, ih h2⟩
theorem TsIs.single {t : Tk} {cs : List Value} (h : TIs w S t cs) : TsIs w S [t] cs := ⟨cs, [], by simp, h, rfl⟩
theorem TsIs.nil (w : World) (S : Nat → Prop) : TsIs w S [] [] := rfl
theorem TsIs.at_ {l : List Tk} {cs : List Value} (h : TsIs w S l cs) {k : Nat} (hk : k < l.length) : ∃ a, TIs w S l[k] a ∧ ∀ j, j < 4 → cs[k * 4 + j]? = a[j]? := by
  induction l generalizing cs k with
  | nil => simp at hk
  | cons n l ih =>
    obtain ⟨a, b, rfl, h1, h2⟩ := h
    have h5 := h1.four
    match k with
    | 0 =>
      refine ⟨a, h1, fun j hj => ?_⟩
      rw [List.getElem?_append_left (by omega), Nat.zero_mul, Nat.zero_add]
    | k + 1 =>
      obtain ⟨a', h3, h4⟩ := ih h2 (k := k) (by simpa using hk)
      refine ⟨a', h3, fun j hj => ?_⟩
      rw [List.getElem?_append_right (by omega), ← h4 j hj]
      congr 1
      omega
end
def ToksP (w : World) (S : Nat → Prop) (A : Option Addr) (n : Nat) (l : List Tk) : Prop := ∃ xs, RdP w S 4 A n xs ∧ TsIs w S l xs
def Toks (w : World) (B : Nat) (A : Option Addr) (n : Nat) (l : List Tk) : Prop := ToksP w (fun b => b < B) A n l
section
variable {w w' : World} {S S' : Nat → Prop} {A : Option Addr} {n : Nat} {l : List Tk}
theorem ToksP.keep (h : ToksP w S A n l) (hk : ∀ p : Addr, S p.block → w'.cell? p = w.cell? p) : ToksP w' S A n l := by
  obtain ⟨xs, h1, h2⟩ := h
  exact ⟨xs, h1.keep hk, h2.keep hk⟩
theorem ToksP.more (h : ToksP w S A n l) (hS : ∀ b, S b → S' b) : ToksP w S' A n l := by
  obtain ⟨xs, h1, h2⟩ := h
  exact ⟨xs, h1.more hS, h2.more hS⟩
theorem ToksP.len (h : ToksP w S A n l) : l.length = n := by
  obtain ⟨xs, h1, h2⟩ := h
  have := h1.1
  rw [h2.len] at this
  omega
theorem ToksP.lt {B : Nat} (h : ToksP w S A n l) (hS : ∀ b, S b → b < B) : Toks w B A n l := ToksP.more h hS
theorem Toks.below {B : Nat} (h : Toks w B A n l) (hb : Below B w w') : Toks w' B A n l := ToksP.keep h fun _ hp => hb.cell hp
theorem Toks.on (h : Toks w w.heap.size A n l) (hb : Below w.heap.size w w') : Toks w' w'.heap.size A n l := ToksP.more (h.below hb) (fun _ hp => Nat.lt_of_lt_of_le hp hb.size)
end
theorem push_toks {lo : Nat} {w w' : World} {v v' : Value} {l : List Tk} {xs : List Value} (h : TsIs w (Apart lo w v) l xs) (hg : w.grownBy w' v.ownBlock)
    (hv : ∀ g, v'.ownBlock = some g → v.ownBlock = some g ∨ w.heap.size ≤ g) : TsIs w' (Apart lo w' v') l xs := by
  refine TsIs.more (S := Apart lo w v) ?_ (TsIs.keep ?_ h)
  · rintro b ⟨h1, h2, h3⟩
    refine ⟨h1, Nat.lt_of_lt_of_le h2 hg.size, fun e => ?_⟩
    rcases hv b e with h4 | h4
    · exact h3 h4
    · omega
  · rintro p ⟨h1, h2, h3⟩
    exact World.cell?_of_block (hg.block p.block h2 (fun e => h3 e.symm))
theorem below_toks {lo : Nat} {w w' : World} {v : Value} {l : List Tk} {xs : List Value} (h : TsIs w (Apart lo w v) l xs) (hb : Below w.heap.size w w') : TsIs w' (Apart lo w' v) l xs := by
  refine TsIs.more (S := Apart lo w v) ?_ (TsIs.keep ?_ h)
  · rintro b ⟨h1, h2, h3⟩
    exact ⟨h1, Nat.lt_of_lt_of_le h2 hb.size, h3⟩
  · rintro p ⟨h1, h2, h3⟩
    exact hb.cell h2
theorem toks_of_own {lo : Nat} {w : World} {A : Option Addr} {c n : Nat} {e : TypeId} {l : List Tk} {xs : List Value} (ho : w.ownsRow lo e 4 (.slice A n c) n xs) (h : TsIs w (Apart lo w (.slice A n c)) l xs) :
    ToksP w (fun b => lo ≤ b ∧ b < w.heap.size) A n l :=
  ⟨xs, RdP.of_own ho, TsIs.more (fun _ hb => ⟨hb.1, hb.2.1⟩) h⟩
theorem infoTk : (Tryz.prog.info? 443).map (fun i => (i.zero, i.size, i.bytes)) = some (some (.agg #[.int .i64 0, .string ⟨#[]⟩, .slice none 0 0, .string ⟨#[]⟩]), 4, 64) := by kernel_rfl
theorem rowTk : Row Tryz.prog 439 443 4 64 := by
  obtain ⟨i, hi, hz, h1, h2⟩ := info_parts infoTk
  exact ⟨Tryz.underlying439, ⟨i, _, hi, hz, h1, h2, rfl⟩, by decide⟩
end Go.Proofs.YtnkelhmjkmeilaaGreatDoor
end
