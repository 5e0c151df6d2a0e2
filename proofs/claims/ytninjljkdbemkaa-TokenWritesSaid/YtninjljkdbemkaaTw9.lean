/- Plain: where a raw element ends. The package token: Ends. -/
import Derived.Test.YtninjljkdbemkaaTw8
namespace Go.Proofs.Ytninjljkdbemkaa

theorem endsL_ge (name : List UInt8) : ∀ l : List UInt8, -1 ≤ endsL l name
  | [] => by simp [endsL]
  | c :: t => by
    have := endsL_ge name t
    simp only [endsL]
    split
    · omega
    · split <;> omega
theorem endsL_skip (name : List UInt8) : ∀ (i : Nat) (l : List UInt8), i ≤ l.length → (∀ k, k < i → endsAt (l.drop k) name = false) → endsL l name = if endsL (l.drop i) name < 0 then -1 else endsL (l.drop i) name + i
  | 0, l, _, _ => by
    have := endsL_ge name l
    simp only [List.drop_zero]
    split <;> omega
  | i + 1, [], h, _ => by simp at h
  | i + 1, c :: t, h, hn => by
    have h0 : endsAt (c :: t) name = false := hn 0 (by omega)
    have ih := endsL_skip name i t (by simpa using h) (fun k hk => by simpa using hn (k + 1) (by omega))
    simp only [endsL, h0, Bool.false_eq_true, if_false, List.drop_succ_cons]
    rw [ih]
    have := endsL_ge name (t.drop i)
    split
    · simp
    · split <;> omega
theorem endsAt_two {l name : List UInt8} (h : endsAt l name = true) : Lib.occAt l [60, 47] 0 = true := by
  match l with
  | [] => simp [endsAt] at h
  | [c] => simp [endsAt] at h
  | a :: b :: t =>
    simp only [endsAt, Bool.and_eq_true, beq_iff_eq] at h
    have h1 : a = 60 := UInt8.toNat_inj.1 (by rw [h.1]; rfl)
    have h2 : b = 47 := UInt8.toNat_inj.1 (by rw [h.2.1]; rfl)
    subst h1; subst h2
    rfl
theorem occ_drop {l sub : List UInt8} {k : Nat} : Lib.occAt (l.drop k) sub 0 = Lib.occAt l sub k := by simp [Lib.occAt]
theorem occ_form {l : List UInt8} {j : Nat} (h : Lib.occAt l [60, 47] j = true) : l.drop j = 60 :: 47 :: l.drop (j + 2) := by
  have h1 := List.isPrefixOf_iff_prefix.1 h
  obtain ⟨t, ht⟩ := h1
  have : l.drop (j + 2) = t := by
    rw [← List.drop_drop, ← ht]; rfl
  rw [this, ← ht]; rfl
/-- none: no </ at all -/
theorem ends_none {l name : List UInt8} (h : Lib.index l [60, 47] < 0) : endsL l name = -1 := by
  rcases Lib.index_spec l [60, 47] with ⟨_, h2⟩ | ⟨i, h1, _⟩
  · have := endsL_skip name l.length l (Nat.le_refl _) (fun k hk => by
      rw [← Bool.not_eq_true]
      intro he
      have := endsAt_two he
      rw [occ_drop, h2 k (by omega)] at this
      cases this)
    rw [this]
    simp [endsL]
  · omega
/-- what stands at </ -/
def endsHere (l name : List UInt8) (j : Nat) : Bool := prefixed (l.drop (j + 2)) name && (match (l.drop (j + 2))[name.length]? with
  | none => false
  | some c => blk c || (c.toNat == 47 || c.toNat == 62))
theorem ends_some {l name : List UInt8} {j : Nat} (h : Lib.index l [60, 47] = j) : j + 2 ≤ l.length ∧ (endsHere l name j = true → endsL l name = j) ∧
    (endsHere l name j = false → endsL l name = if endsL (l.drop (j + 2)) name < 0 then -1 else endsL (l.drop (j + 2)) name + (j + 2 : Nat)) := by
  have hr := Lib.index_room l [60, 47] (by omega)
  simp only [List.length_cons, List.length_nil] at hr
  have hj2 : j + 2 ≤ l.length := by omega
  rcases Lib.index_spec l [60, 47] with ⟨h1, _⟩ | ⟨i, h1, hi, ho, hno⟩
  · omega
  · obtain rfl : i = j := by omega
    have hf := occ_form ho
    have hbefore : ∀ k, k < i → endsAt (l.drop k) name = false := fun k hk => by
      rw [← Bool.not_eq_true]
      intro he
      have := endsAt_two he
      rw [occ_drop, hno k hk] at this
      cases this
    have hat : endsAt (l.drop i) name = endsHere l name i := by
      rw [hf]
      simp only [endsAt, endsHere]
      rfl
    refine ⟨hj2, fun hy => ?_, fun hn => ?_⟩
    · rw [endsL_skip name i l (by omega) hbefore]
      have : endsL (l.drop i) name = 0 := by
        rw [hf] at hat ⊢
        simp only [endsL, hat, hy, if_true]
      rw [this]; simp
    · refine endsL_skip name (i + 2) l hj2 (fun k hk => ?_)
      by_cases h3 : k < i
      · exact hbefore k h3
      · by_cases h4 : k = i
        · subst h4; rw [hat, hn]
        · have h5 : k = i + 1 := by omega
          subst h5
          have : l.drop (i + 1) = 47 :: l.drop (i + 2) := by
            rw [← List.drop_drop, hf]; rfl
          rw [this, ← Bool.not_eq_true]
          intro he
          have := endsAt_two he
          simp [Lib.occAt] at this
end Go.Proofs.Ytninjljkdbemkaa
namespace Go.Proofs.Ytninjljkdbemkaa
open Go.RowKit

set_option maxHeartbeats 1000000 in
set_option maxRecDepth 100000 in
/-- token.Ends -/
theorem Ends_any {w : World} {s t : ByteArray} {l name : List UInt8} (hs : IsStr s l) (hl : l.length ≤ 1000000) (ht : IsStr t name) (hn : name.length ≤ 1000000) (hM : M0 w) :
    Calls Try.prog 26 #[.string s, .string t] w fun e w' => e = .returned (.int .i64 (endsL l name)) ∧ Below w.heap.size w w' := by
  have hss := hs.size
  have htt := ht.size
  have hsb : s.size ≤ 1000000 := by omega
  have htb : t.size ≤ 1000000 := by omega
  have HS := Lib.hid hs
  have HT := Lib.hid ht
  have HSS := Lib.hid hss
  have HTT := Lib.hid htt
  have HM := Lib.hid hM
  clear hs ht hss htt hM
  go_enter Try.func26, Try.ntmps26
  go_wp2
  go_loopw [5] (fun iv wr => ∃ k : Nat, iv = .int .i64 k ∧ k ≤ s.size ∧ endsL l name = (if endsL (l.drop k) name < 0 then -1 else endsL (l.drop k) name + k) ∧ Below w.heap.size w wr) (fun iv _ => s.size - (intOf iv).toNat)
  case atStart =>
    refine ⟨0, rfl, Nat.zero_le _, ?_, Below.refl _ _⟩
    have := endsL_ge name l
    simp only [List.drop_zero]
    split <;> omega
  case round =>
    obtain ⟨k, rfl, hk, hend, hb⟩ := hrel
    have HE := Lib.hid hend
    have hM1 := HM.out.below hb
    have hd := s_drop HS.out k
    have hdl : (l.drop k).length ≤ 1000000 := by rw [List.length_drop]; omega
    have hdz : (l.drop k).length = s.size - k := by rw [List.length_drop, HSS.out]
    clear hend
    generalize hde : s.extract k s.size = d at *
    go_wp2_with fail
    refine (Ix_any (sub := [60, 47]) hd hdl hM1).mono ?_
    rintro e W1 ⟨rfl, rfl⟩
    clear hd hde
    by_cases hj : Lib.index (l.drop k) [60, 47] < 0
    · have HR := Lib.hid (show endsL l name = -1 by rw [HE.out, ends_none hj]; rfl)
      generalize Lib.index (l.drop k) [60, 47] = j at *
      go_wp2
      go_ret
      exact ⟨ret_int (by rw [HR.out]), hb⟩
    · obtain ⟨j, hje⟩ : ∃ j : Nat, Lib.index (l.drop k) [60, 47] = j := ⟨_, (Int.toNat_of_nonneg (by omega)).symm⟩
      obtain ⟨hj2, hyes, hnot⟩ := ends_some (name := name) hje
      rw [hje]
      have hkj : k + j + 2 ≤ s.size := by omega
      have hdd : (l.drop k).drop (j + 2) = l.drop (k + j + 2) := by rw [List.drop_drop]; congr 1
      have HYES := Lib.hid (fun h => show endsL l name = (k : Int) + j by
        rw [HE.out, hyes h, if_neg (by omega)]; omega)
      have HNOT := Lib.hid (fun h => show endsL l name = (if endsL (l.drop (k + j + 2)) name < 0 then -1 else endsL (l.drop (k + j + 2)) name + (k + j + 2 : Nat)) by
        rw [HE.out, hnot h, hdd]
        have := endsL_ge name (l.drop (k + j + 2))
        split
        · rfl
        · split <;> omega)
      have HHERE := Lib.hid (show endsHere (l.drop k) name j = (prefixed (l.drop (k + j + 2)) name && (match (l.drop (k + j + 2))[name.length]? with
          | none => false
          | some c => blk c || (c.toNat == 47 || c.toNat == 62))) by unfold endsHere; rw [hdd]; try rfl)
      have hr := s_drop HS.out (k + j + 2)
      have hrl : (l.drop (k + j + 2)).length ≤ 1000000 := by rw [List.length_drop]; omega
      have hrz := hr.size
      have hrz2 : s.size - (k + j + 2) = (l.drop (k + j + 2)).length := by rw [List.length_drop, HSS.out]
      clear hyes hnot hdd hje hj HE hM1 hj2 hdl hdz
      generalize hme : l.drop (k + j + 2) = m at *
      generalize hre : s.extract (k + j + 2) s.size = r at *
      by_cases heq : r.size = t.size
      · have HN := Lib.hid (HNOT.out (by
          rw [HHERE.out, List.getElem?_eq_none (by have := HTT.out; omega)]; simp))
        go_wp2
        go_roundw
        case rel => exact ⟨k + j + 2, by go_num, hkj, by rw [hme]; exact HN.out, hb⟩
        case measure => simp [intOf]; omega
      · have qe : ((r.size : Int) == (t.size : Int)) = false := by rw [beq_eq_false_iff_ne]; omega
        go_wp2_with fail
        refine (Prefix_any hr HT.out hrl hn).mono ?_
        rintro e W2 ⟨rfl, b2⟩
        have hb2 := hb.trans (b2.mono hb.size)
        cases hp : prefixed m name with
        | false =>
          have HN := Lib.hid (HNOT.out (by rw [HHERE.out, hp]; rfl))
          clear hp
          go_wp2
          go_roundw
          case rel => exact ⟨k + j + 2, by go_num, hkj, by rw [hme]; exact HN.out, hb2⟩
          case measure => simp [intOf]; omega
        | true =>
          have hle : name.length ≤ m.length := by
            simp only [prefixed, Bool.and_eq_true, decide_eq_true_eq] at hp
            exact hp.1
          have hlt : name.length < m.length := by have := HTT.out; omega
          have hrt : t.size < r.size := by have := HTT.out; omega
          have e1 := s_byte hr t.size hrt (by have := HTT.out; omega)
          have e2 : m[name.length]? = some (m[t.size]'(by have := HTT.out; omega)) := by
            have h := HTT.out
            rw [List.getElem?_eq_getElem hlt]
            congr 1
            simp only [h]
          generalize m[t.size]'(by have := HTT.out; omega) = c at *
          have HH := Lib.hid (show endsHere (l.drop k) name j = (blk c || (c.toNat == 47 || c.toNat == 62)) by rw [HHERE.out, hp, e2]; rfl)
          have hw : RowKit.wrap32 (c.toNat : Int) = c.toNat := IntWalk.wrap32_in _ (by have := c.toNat_lt; omega)
          generalize hcc : r[t.size] = cc at *
          obtain rfl : c = cc := e1.symm
          clear hp e2 hle hlt
          go_wp2_with fail
          refine (blankB_any c _).mono ?_
          rintro e W3 ⟨rfl, rfl⟩
          cases hbl : blk c with
          | true =>
            have HY := Lib.hid (HYES.out (by rw [HH.out, hbl]; rfl))
            clear hbl
            go_wp2
            go_ret
            exact ⟨ret_int HY.out.symm, hb2⟩
          | false =>
            by_cases h1 : c.toNat = 47
            · have q1 : ((c.toNat : Int) == 47) = true := by rw [h1]; rfl
              have HY := Lib.hid (HYES.out (by rw [HH.out, hbl, h1]; rfl))
              clear hbl h1
              go_wp2
              go_ret
              exact ⟨ret_int HY.out.symm, hb2⟩
            · have q1 : ((c.toNat : Int) == 47) = false := by rw [beq_eq_false_iff_ne]; omega
              by_cases h2 : c.toNat = 62
              · have q2 : ((c.toNat : Int) == 62) = true := by rw [h2]; rfl
                have HY := Lib.hid (HYES.out (by rw [HH.out, hbl, h2]; rfl))
                clear hbl h1 h2
                go_wp2
                go_ret
                exact ⟨ret_int HY.out.symm, hb2⟩
              · have q2 : ((c.toNat : Int) == 62) = false := by rw [beq_eq_false_iff_ne]; omega
                have HN := Lib.hid (HNOT.out (by rw [HH.out, hbl, show (c.toNat == 47) = false by simpa using h1, show (c.toNat == 62) = false by simpa using h2]; rfl))
                clear hbl h1 h2
                go_wp2
                go_roundw
                case rel => exact ⟨k + j + 2, by go_num, hkj, by rw [hme]; exact HN.out, hb2⟩
                case measure => simp [intOf]; omega
end Go.Proofs.Ytninjljkdbemkaa
