/- strainerref03, strainerref01: few, small, Named, Is, Attributed, Value. -/
import Derived.Test.YtninjljkdbemkaaWp
import Derived.Test.YtninjljkdbemkaaRf3
namespace Go.Proofs.Ytninjljkdbemkaa
open Go.RowKit

/-- what '[]byte(s)' lays -/
theorem bytes_rd {s : ByteArray} {l : List UInt8} (hs : IsStr s l) (w : World) (N : Nat) (e : TypeId) (fz : Nat × Nat) :
    Rd (w.drew.alloc (.cells (bytesRow s N) e fz)) (w.drew.alloc (.cells (bytesRow s N) e fz)).heap.size 1 (some ⟨w.heap.size, 0, none⟩) s.size (Lib.byteCells l) := by
  have h := heap_alloc_new w.drew (.cells (bytesRow s N) e fz)
  have := Rd.of_heap (w := w.drew.alloc (.cells (bytesRow s N) e fz)) (g := w.heap.size) (n := s.size) (xs := Lib.byteCells l) h (by rw [hs.size]; exact bytesRow_take s N hs) (by rw [Lib.byteCells_length, hs.size])
  refine this.more ?_
  rw [World.size_alloc]
  exact Nat.le_refl _
theorem bytes_below (w : World) (o : Obj) : Below w.heap.size w (w.drew.alloc o) := (Below.refl _ w).drew.alloc (Nat.le_refl _) o

theorem few3_any (l : List UInt8) (w : World) : Calls Try.prog 52 #[.string ⟨l.toArray⟩] w fun e w' => e = .returned (.string ⟨(l.take 30).toArray⟩) ∧ w' = w := by
  by_cases h : 30 < l.length
  · have ht := (s_take (IsStr.mk l) 30).to
    have HT := Lib.hid ht
    clear ht
    go_enter Try.func52, Try.ntmps52
    go_wp2
    go_ret
    exact ⟨ret_str HT.out, rfl⟩
  · have HT := Lib.hid (show l.take 30 = l by rw [List.take_of_length_le (by omega)])
    go_enter Try.func52, Try.ntmps52
    go_wp2
    go_ret
    exact ⟨by rw [HT.out]; rfl, rfl⟩

/-- a letter a to z -/
def smallB (c : UInt8) : Bool := decide (97 ≤ (c.toNat : Int)) && decide ((c.toNat : Int) ≤ 122)
theorem small3_any (c : UInt8) (w : World) : Calls Try.prog 27 #[.int .u8 c.toNat] w fun e w' => e = .returned (.bool (smallB c)) ∧ w = w' := by
  by_cases h : 97 ≤ (c.toNat : Int)
  · go_enter Try.func27, Try.ntmps27
    go_wp2
    go_ret
    exact ⟨ret_bool (by simp [smallB, h]), rfl⟩
  · go_enter Try.func27, Try.ntmps27
    go_wp2
    go_ret
    exact ⟨ret_bool (by simp [smallB]; omega), rfl⟩
/-- a byte of a name -/
def nameB (c : UInt8) : Bool := smallB c || (decide (48 ≤ (c.toNat : Int)) && decide ((c.toNat : Int) ≤ 57)) || c == 45
/-- an element's name -/
def namedL : List UInt8 → Bool
  | [] => false
  | c :: l => smallB c && (c :: l).all nameB

theorem all_take_next {p : UInt8 → Bool} {l : List UInt8} {k : Nat} (hk : k < l.length) (h : (l.take k).all p = true) (hp : p l[k] = true) : (l.take (k + 1)).all p = true := by
  rw [List.take_succ_eq_append_getElem hk, List.all_append, h]
  simp [hp]
theorem all_no {p : UInt8 → Bool} {l : List UInt8} {k : Nat} (hk : k < l.length) (hp : p l[k] = false) : l.all p = false := by
  rw [List.all_eq_false]
  exact ⟨l[k], List.getElem_mem _, by simp [hp]⟩
theorem namedL_eq {l : List UInt8} (h : 0 < l.length) : namedL l = (smallB l[0] && l.all nameB) := by
  cases l with
  | nil => simp at h
  | cons c l => rfl

set_option maxHeartbeats 1000000 in
set_option maxRecDepth 100000 in
theorem Named3_any {s : ByteArray} {l : List UInt8} (hs : IsStr s l) (hl : l.length ≤ maxLen) (w : World) : Calls Try.prog 15 #[.string s] w fun e w' => e = .returned (.bool (namedL l)) ∧ w = w' := by
  unfold maxLen at hl
  have hsz := hs.size
  have hsb : s.size ≤ 9223372036854775807 := by omega
  by_cases h0 : s.size = 0
  · have : l = [] := List.eq_nil_of_length_eq_zero (by omega)
    subst this
    clear hsz hs
    go_enter Try.func15, Try.ntmps15
    go_wp2
    go_ret
    exact ⟨rfl, rfl⟩
  · have hpos : 0 < s.size := by omega
    have hposl : 0 < l.length := by omega
    have e0 := s_byte hs 0 hpos hposl
    have HNL := Lib.hid (namedL_eq hposl)
    have HE0 := Lib.hid e0
    have HS := Lib.hid hs
    have HSZ := Lib.hid hsz
    clear e0 hs hsz h0
    go_enter Try.func15, Try.ntmps15
    go_wp2_with fail
    refine (small3_any _ _).mono ?_
    rintro e w' ⟨rfl, rfl⟩
    rw [HE0.out]
    go_wp2
    go_loop [4] (fun i => ∃ k : Nat, i = .int .i64 k ∧ k ≤ s.size ∧ (l.take k).all nameB = true) (fun i => s.size - (intOf i).toNat)
    case atStart => exact ⟨0, rfl, Nat.zero_le _, rfl⟩
    case round =>
      obtain ⟨k, rfl, hk, hall⟩ := hrel
      have HA := Lib.hid hall
      clear hall
      by_cases hlt : k < s.size
      · have hkl : k < l.length := by rw [← HSZ.out]; exact hlt
        have HNX := Lib.hid (fun hp => all_take_next (p := nameB) hkl HA.out hp)
        have HNO := Lib.hid (fun hp => all_no (p := nameB) hkl hp)
        have e1 := s_byte HS.out k hlt hkl
        rw [← e1] at HNX HNO
        clear e1
        generalize hc : s[k] = c at *
        cases hsm : smallB c with
        | true =>
          have HM := Lib.hid hsm
          clear hsm
          go_wp2_with fail
          refine (small3_any _ _).mono ?_
          rintro e w' ⟨rfl, rfl⟩
          rw [HM.out]
          go_wp2
          go_round
          case rel => exact ⟨k + 1, by go_num, by omega, HNX.out (by simp [nameB, HM.out])⟩
          case measure => simp [intOf]; omega
        | false =>
          have HM := Lib.hid hsm
          clear hsm
          go_wp2_with fail
          refine (small3_any _ _).mono ?_
          rintro e w' ⟨rfl, rfl⟩
          rw [HM.out]
          by_cases h1 : (c.toNat : Int) < 48
          · by_cases h2 : c = 45
            · subst h2
              go_wp2
              go_round
              case rel => exact ⟨k + 1, by go_num, by omega, HNX.out (by simp [nameB])⟩
              case measure => simp [intOf]; omega
            · have q : ((c.toNat : Int) != 45) = true := by
                simp only [bne_iff_ne]
                intro e
                exact h2 (UInt8.toNat_inj.1 (by have : (45 : UInt8).toNat = 45 := rfl; omega))
              have HC := Lib.hid (show nameB c = false by simp [nameB, HM.out, h2]; omega)
              clear h2
              go_wp2
              go_ret
              exact ⟨ret_bool (by rw [HNL.out, HNO.out HC.out, Bool.and_false]), rfl⟩
          · by_cases h3 : (57 : Int) < c.toNat
            · by_cases h2 : c = 45
              · subst h2; simp at h1
              · have q : ((c.toNat : Int) != 45) = true := by
                  simp only [bne_iff_ne]
                  intro e
                  exact h2 (UInt8.toNat_inj.1 (by have : (45 : UInt8).toNat = 45 := rfl; omega))
                have HC := Lib.hid (show nameB c = false by simp only [nameB, HM.out, decide_eq_false (show ¬ (c.toNat : Int) ≤ 57 by omega), beq_eq_false_iff_ne.2 h2, Bool.and_false, Bool.or_false])
                clear h2
                go_wp2
                go_ret
                exact ⟨ret_bool (by rw [HNL.out, HNO.out HC.out, Bool.and_false]), rfl⟩
            · have HC := Lib.hid (show nameB c = true by simp [nameB, HM.out]; omega)
              go_wp2
              go_round
              case rel => exact ⟨k + 1, by go_num, by omega, HNX.out HC.out⟩
              case measure => simp [intOf]; omega
      · have HALL := Lib.hid (show l.all nameB = true by rw [← HA.out, List.take_of_length_le (by rw [← HSZ.out]; omega)])
        go_wp2
        go_ret
        exact ⟨ret_bool (by rw [HNL.out, HALL.out, Bool.and_true]), rfl⟩

/-- a byte that an attribute's name may not hold -/
def badB (c : UInt8) : Bool := (decide (65 ≤ (c.toNat : Int)) && decide ((c.toNat : Int) ≤ 90)) || ((c.toNat : Int) == 9) || ((c.toNat : Int) == 10) || ((c.toNat : Int) == 12) || ((c.toNat : Int) == 32) || ((c.toNat : Int) == 47) || ((c.toNat : Int) == 62) || ((c.toNat : Int) == 61)
/-- an attribute's name -/
def attrdL (l : List UInt8) : Bool := isRight l && (l.all fun c => !badB c) && !l.isEmpty

theorem badB_iff (c : UInt8) : badB c = true ↔ (65 ≤ (c.toNat : Int) ∧ (c.toNat : Int) ≤ 90) ∨ (c.toNat : Int) = 9 ∨ (c.toNat : Int) = 10 ∨ (c.toNat : Int) = 12 ∨ (c.toNat : Int) = 32 ∨ (c.toNat : Int) = 47 ∨ (c.toNat : Int) = 62 ∨ (c.toNat : Int) = 61 := by
  simp only [badB, Bool.or_eq_true, Bool.and_eq_true, decide_eq_true_eq, beq_iff_eq]
  omega
theorem right_iff (l : List UInt8) : (right l == l) = isRight l := by
  cases h : isRight l with
  | true => rw [right_right l h]; simp
  | false =>
    rw [beq_eq_false_iff_ne]
    intro e
    rw [← e, right_is] at h
    cases h

set_option maxHeartbeats 1000000 in
set_option maxRecDepth 100000 in
/-- strainerref01.Is -/
theorem RefIs_any {w : World} {s : ByteArray} {l : List UInt8} (hs : IsStr s l) (hl : l.length ≤ 250000) : Calls Try.prog 28 #[.string s] w fun e w' => e = .returned (.bool (isRight l)) ∧ Below w.heap.size w w' := by
  have hsz := hs.size
  have hsb : s.size ≤ 250000 := by omega
  have HS := Lib.hid hs
  have HR := Lib.hid (right_iff l)
  have hcb := fun (w : World) => run_bytes_of_string (P := Try.prog) w 9 36 5 s Try.underlying9 Try.underlying36 Try.underlying5
  clear hs hsz
  go_enter Try.func28, Try.ntmps28
  go_wp2_with fail
  refine (RefRight_any (bytes_rd HS.out w _ _ _) (grownCap_ge _ _ _ _) (grownCap_le_maxLen _ _ _ _ (by unfold maxLen; omega)) hsb).mono ?_
  rintro e W1 ⟨t, rfl, ht, b1⟩
  have B1 := bt (bytes_below w _) b1
  obtain rfl := ht.to
  obtain rfl := HS.out.to
  clear ht b1 hcb
  go_wp2
  go_ret
  exact ⟨ret_bool HR.out, B1⟩

set_option maxHeartbeats 1000000 in
set_option maxRecDepth 100000 in
/-- strainerref03.Attributed -/
theorem Attributed3_any {w : World} {s : ByteArray} {l : List UInt8} (hs : IsStr s l) (hl : l.length ≤ 250000) : Calls Try.prog 16 #[.string s] w fun e w' => e = .returned (.bool (attrdL l)) ∧ Below w.heap.size w w' := by
  have hsz := hs.size
  have hsb : s.size ≤ 250000 := by omega
  have HS := Lib.hid hs
  have HSZ := Lib.hid hsz
  clear hs hsz
  go_enter Try.func16, Try.ntmps16
  go_wp2_with fail
  refine (RefIs_any HS.out hl).mono ?_
  rintro e W1 ⟨rfl, b1⟩
  go_wp2
  go_loop [4] (fun i => ∃ k : Nat, i = .int .i64 k ∧ k ≤ s.size ∧ ((l.take k).all fun c => !badB c) = true) (fun i => s.size - (intOf i).toNat)
  case atStart => exact ⟨0, rfl, Nat.zero_le _, rfl⟩
  case round =>
    obtain ⟨k, rfl, hk, hall⟩ := hrel
    have HA := Lib.hid hall
    clear hall
    by_cases hlt : k < s.size
    · have hkl : k < l.length := by rw [← HSZ.out]; exact hlt
      have HNX := Lib.hid (fun hp => all_take_next (p := fun c => !badB c) hkl HA.out hp)
      have HNO := Lib.hid (fun hp => all_no (p := fun c => !badB c) hkl hp)
      have e1 := s_byte HS.out k hlt hkl
      rw [← e1] at HNX HNO
      clear e1
      generalize hc : s[k] = c at *
      go_wp2
      all_goals first
        | (have hb : badB c = true := by
             rw [badB_iff]
             clear HNX HNO
             try simp only [beq_iff_eq, beq_eq_false_iff_ne] at *
             omega
           go_ret
           exact ⟨ret_bool (by simp [attrdL, HNO.out (by simp [hb])]), b1⟩)
        | (have hb : badB c = false := by
             rw [← Bool.not_eq_true, badB_iff]
             clear HNX HNO
             try simp only [beq_iff_eq, beq_eq_false_iff_ne] at *
             omega
           go_round
           case rel => exact ⟨k + 1, by go_num, by omega, HNX.out (by simp [hb])⟩
           case measure => simp [intOf]; omega)
    · have HALL := Lib.hid (show (l.all fun c => !badB c) = true by rw [← HA.out, List.take_of_length_le (by rw [← HSZ.out]; omega)])
      have hsz := HSZ.out
      cases hri : isRight l with
      | true =>
        have HRI := Lib.hid hri
        clear hri
        cases l with
        | nil =>
          obtain rfl := HS.out.to
          clear hsz
          go_wp2
          go_ret
          exact ⟨ret_bool (by simp [attrdL]), b1⟩
        | cons c t =>
          have hz' : 0 < s.size := by rw [hsz]; simp
          clear hsz
          go_wp2
          go_ret
          exact ⟨ret_bool (by simp only [attrdL, HRI.out, HALL.out]; rfl), b1⟩
      | false =>
        have HRI := Lib.hid hri
        clear hri hsz
        go_wp2
        go_ret
        exact ⟨ret_bool (by simp [attrdL, HRI.out]), b1⟩
end Go.Proofs.Ytninjljkdbemkaa
