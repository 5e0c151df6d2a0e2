/- strainerref03, strainerref01: few, small, Named, Is, Attributed, Value. The packages dom and strainerref03: Void, Raw. The walks of the package refs: Escape. The package write: what hands over a text (begin, end), whatever it is handed to. The package write: begin. -/
import Derived.KernelRfl
import Derived.Test.YtnkelhmjkmeilaaGreatDoorProg
import Derived.Test.YtnkelhmjkmeilaaGreatDoorT02
import Derived.Test.YtnkelhmjkmeilaaGreatDoorT04
import Derived.Test.YtnkelhmjkmeilaaGreatDoorT01
section
namespace Go.Proofs.YtnkelhmjkmeilaaGreatDoor
open Go.RowKit
def smallB (c : UInt8) : Bool := decide (97 ≤ (c.toNat : Int)) && decide ((c.toNat : Int) ≤ 122)
theorem small3_any (c : UInt8) (w : World) : Calls Tryz.prog 12 #[.int .u8 c.toNat] w fun e w' => e = .returned (.bool (smallB c)) ∧ w = w' := by
  by_cases h : 97 ≤ (c.toNat : Int)
  · go_enter Tryz.func12, Tryz.ntmps12
    go_wp2
    go_ret
    exact ⟨ret_bool (by simp [smallB, h]), rfl⟩
  · go_enter Tryz.func12, Tryz.ntmps12
    go_wp2
    go_ret
    exact ⟨ret_bool (by simp [smallB]; omega), rfl⟩
def nameB (c : UInt8) : Bool := smallB c || (decide (48 ≤ (c.toNat : Int)) && decide ((c.toNat : Int) ≤ 57)) || c == 45
def namedL : List UInt8 → Bool
  | [] => false
  | c :: l => smallB c && (c :: l).all nameB
theorem all_take_next {p : UInt8 → Bool} {l : List UInt8} {k : Nat} (hk : k < l.length) (h : (l.take k).all p = true) (hp : p l[k] = true) : (l.take (k + 1)).all p = true := by
  rw [List.take_succ_eq_append_getElem hk, List.all_append, h]
  simp [hp]
theorem all_no {p : UInt8 → Bool} {l : List UInt8} {k : Nat} (hk : k < l.length) (hp : p l[k] = false) : l.all p = false := by
  rw [List.all_eq_false]
  exact ⟨l[k], List.getElem_mem _, by simp [hp]⟩
theorem namedL_eq {l : List UInt8} (h : 0 < l.length) : namedL l = (smallB l[0] && l.all nameB) := by
  cases l with
  | nil => simp at h
  | cons c l => rfl
set_option maxHeartbeats 1000000 in
set_option maxRecDepth 100000 in
theorem Named3_any {s : ByteArray} {l : List UInt8} (hs : IsStr s l) (hl : l.length ≤ maxLen) (w : World) : Calls Tryz.prog 4 #[.string s] w fun e w' => e = .returned (.bool (namedL l)) ∧ w = w' := by
  unfold maxLen at hl
  have hsz := hs.size
  have hsb : s.size ≤ 9223372036854775807 := by omega
  by_cases h0 : s.size = 0
  · have : l = [] := List.eq_nil_of_length_eq_zero (by omega)
    subst this
    clear hsz hs
    go_enter Tryz.func4, Tryz.ntmps4
    go_wp2
    go_ret
    exact ⟨rfl, rfl⟩
  · have hpos : 0 < s.size := by omega
    have hposl : 0 < l.length := by omega
    have e0 := s_byte hs 0 hpos hposl
    have HNL := Lib.hid (namedL_eq hposl)
    have HE0 := Lib.hid e0
    have HS := Lib.hid hs
    have HSZ := Lib.hid hsz
    clear e0 hs hsz h0
    go_enter Tryz.func4, Tryz.ntmps4
    go_wp2_with fail
    refine (small3_any _ _).mono ?_
    rintro e w' ⟨rfl, rfl⟩
    rw [HE0.out]
    go_wp2
    go_loop [4] (fun i => ∃ k : Nat, i = .int .i64 k ∧ k ≤ s.size ∧ (l.take k).all nameB = true) (fun i => s.size - (intOf i).toNat)
    case atStart => exact ⟨0, rfl, Nat.zero_le _, rfl⟩
    case round =>
      obtain ⟨k, rfl, hk, hall⟩ := hrel
      have HA := Lib.hid hall
      clear hall
      by_cases hlt : k < s.size
      · have hkl : k < l.length := by rw [← HSZ.out]; exact hlt
        have HNX := Lib.hid (fun hp => all_take_next (p := nameB) hkl HA.out hp)
        have HNO := Lib.hid (fun hp => all_no (p := nameB) hkl hp)
        have e1 := s_byte HS.out k hlt hkl
        rw [← e1] at HNX HNO
        clear e1
        generalize hc : s[k] = c at *
        cases hsm : smallB c with
        | true =>
          have HM := Lib.hid hsm
          clear hsm
          go_wp2_with fail
          refine (small3_any _ _).mono ?_
          rintro e w' ⟨rfl, rfl⟩
          rw [HM.out]
          go_wp2
          go_round
          case rel => exact ⟨k + 1, by go_num, by omega, HNX.out (by simp [nameB, HM.out])⟩
          case measure => simp [intOf]; omega
        | false =>
          have HM := Lib.hid hsm
          clear hsm
          go_wp2_with fail
          refine (small3_any _ _).mono ?_
          rintro e w' ⟨rfl, rfl⟩
          rw [HM.out]
          by_cases h1 : (c.toNat : Int) < 48
          · by_cases h2 : c = 45
            · subst h2
              go_wp2
              go_round
              case rel => exact ⟨k + 1, by go_num, by omega, HNX.out (by simp [nameB])⟩
              case measure => simp [intOf]; omega
            · have q : ((c.toNat : Int) != 45) = true := by
                simp only [bne_iff_ne]
                intro e
                exact h2 (UInt8.toNat_inj.1 (by have : (45 : UInt8).toNat = 45 := rfl; omega))
              have HC := Lib.hid (show nameB c = false by simp [nameB, HM.out, h2]; omega)
              clear h2
              go_wp2
              go_ret
              exact ⟨ret_bool (by rw [HNL.out, HNO.out HC.out, Bool.and_false]), rfl⟩
          · by_cases h3 : (57 : Int) < c.toNat
            · by_cases h2 : c = 45
              · subst h2; simp at h1
              · have q : ((c.toNat : Int) != 45) = true := by
                  simp only [bne_iff_ne]
                  intro e
                  exact h2 (UInt8.toNat_inj.1 (by have : (45 : UInt8).toNat = 45 := rfl; omega))
                have HC := Lib.hid (show nameB c = false by simp only [nameB, HM.out, decide_eq_false (show ¬ (c.toNat : Int) ≤ 57 by omega), beq_eq_false_iff_ne.2 h2, Bool.and_false, Bool.or_false])
                clear h2
                go_wp2
                go_ret
                exact ⟨ret_bool (by rw [HNL.out, HNO.out HC.out, Bool.and_false]), rfl⟩
            · have HC := Lib.hid (show nameB c = true by simp [nameB, HM.out]; omega)
              go_wp2
              go_round
              case rel => exact ⟨k + 1, by go_num, by omega, HNX.out HC.out⟩
              case measure => simp [intOf]; omega
      · have HALL := Lib.hid (show l.all nameB = true by rw [← HA.out, List.take_of_length_le (by rw [← HSZ.out]; omega)])
        go_wp2
        go_ret
        exact ⟨ret_bool (by rw [HNL.out, HALL.out, Bool.and_true]), rfl⟩
def badB (c : UInt8) : Bool := (decide (65 ≤ (c.toNat : Int)) && decide ((c.toNat : Int) ≤ 90)) || ((c.toNat : Int) == 9) || ((c.toNat : Int) == 10) || ((c.toNat : Int) == 12) || ((c.toNat : Int) == 32) || ((c.toNat : Int) == 47) || ((c.toNat : Int) == 62) || ((c.toNat : Int) == 61)
def attrdL (l : List UInt8) : Bool := isRight l && (l.all fun c => !badB c) && !l.isEmpty
theorem badB_iff (c : UInt8) : badB c = true ↔ (65 ≤ (c.toNat : Int) ∧ (c.toNat : Int) ≤ 90) ∨ (c.toNat : Int) = 9 ∨ (c.toNat : Int) = 10 ∨ (c.toNat : Int) = 12 ∨ (c.toNat : Int) = 32 ∨ (c.toNat : Int) = 47 ∨ (c.toNat : Int) = 62 ∨ (c.toNat : Int) = 61 := by
  simp only [badB, Bool.or_eq_true, Bool.and_eq_true, decide_eq_true_eq, beq_iff_eq]
  omega
end Go.Proofs.YtnkelhmjkmeilaaGreatDoor
end
section
namespace Go.Proofs.YtnkelhmjkmeilaaGreatDoor
open Go.RowKit
set_option maxRecDepth 100000 in
theorem dVoid_any (l : List UInt8) (w : World) : Calls Tryz.prog 24 #[.string ⟨l.toArray⟩] w fun e w' => e = .returned (.bool (voidL l)) ∧ w = w' := by
  go_enter Tryz.func24, Tryz.ntmps24
  go_wp2
  all_goals (go_ret; exact ⟨ret_bool (by simp_all [voidL]), rfl⟩)
set_option maxRecDepth 100000 in
theorem dRaw_any (l : List UInt8) (w : World) : Calls Tryz.prog 25 #[.string ⟨l.toArray⟩] w fun e w' => e = .returned (.bool (rawL l)) ∧ w = w' := by
  go_enter Tryz.func25, Tryz.ntmps25
  go_wp2
  all_goals (go_ret; exact ⟨ret_bool (by simp_all [rawL]), rfl⟩)
set_option maxRecDepth 100000 in
theorem rVoid_any (l : List UInt8) (w : World) : Calls Tryz.prog 5 #[.string ⟨l.toArray⟩] w fun e w' => e = .returned (.bool (voidL l)) ∧ w = w' := by
  go_enter Tryz.func5, Tryz.ntmps5
  go_wp2
  all_goals (go_ret; exact ⟨ret_bool (by simp_all [voidL, Bool.or_assoc]), rfl⟩)
set_option maxRecDepth 100000 in
theorem rRaw_any (l : List UInt8) (w : World) : Calls Tryz.prog 6 #[.string ⟨l.toArray⟩] w fun e w' => e = .returned (.bool (rawL l)) ∧ w = w' := by
  go_enter Tryz.func6, Tryz.ntmps6
  go_wp2
  all_goals (go_ret; exact ⟨ret_bool (by simp_all [rawL]), rfl⟩)
end Go.Proofs.YtnkelhmjkmeilaaGreatDoor
end
section
namespace Go.Proofs.YtnkelhmjkmeilaaGreatDoor
open Go.RowKit
theorem u8_beq {a b : UInt8} (h : a ≠ b) : ((a.toNat : Int) == (b.toNat : Int)) = false := by
  rw [beq_eq_false_iff_ne]
  intro e
  exact h (UInt8.toNat_inj.1 (by omega))
theorem esc_next (v : Bool) {l : List UInt8} {k : Nat} (hk : k < l.length) : esc v (l.take (k + 1)) = esc v (l.take k) ++ escB v l[k] := by
  rw [List.take_succ_eq_append_getElem hk, esc_append]
  simp [esc]
theorem escB_one (v : Bool) {c : UInt8} (h1 : c ≠ 38) (h2 : c ≠ 60) (h3 : c ≠ 62) (h4 : ¬ (c = 34 ∧ v = true)) : escB v c = [c] := by
  unfold escB
  rw [if_neg h1, if_neg h2, if_neg h3, if_neg h4]
set_option maxHeartbeats 1000000 in
set_option maxRecDepth 100000 in
theorem Escape_any {w : World} {s : ByteArray} {l : List UInt8} (hs : IsStr s l) (hl : l.length ≤ 1000000) (v : Bool) :
    Calls Tryz.prog 26 #[.string s, .bool v] w fun e w' => ∃ t, e = .returned (.string t) ∧ IsStr t (esc v l) ∧ Below w.heap.size w w' := by
  have hsz := hs.size
  have hsb : s.size ≤ 1000000 := by omega
  have HS := Lib.hid hs
  have HSZ := Lib.hid hsz
  clear hs hsz
  go_enter Tryz.func26, Tryz.ntmps26
  go_wp2
  go_loopw [10] (fun i wr => ∃ (k : Nat) (acc : List UInt8), i = .int .i64 k ∧ k ≤ s.size ∧ Bld w.heap.size w.heap.size acc wr ∧ Below w.heap.size w wr ∧ acc = esc v (l.take k)) (fun i _ => s.size - (intOf i).toNat)
  case atStart => exact ⟨0, [], rfl, Nat.zero_le _, Bld.fresh w, (Below.refl _ w).alloc (Nat.le_refl _) _, rfl⟩
  case round =>
    obtain ⟨k, acc, rfl, hk, hB, hbw, hacc⟩ := hrel
    have hww := hbw.size
    have hsz := HSZ.out
    have hal : acc.length ≤ 6000000 := by
      rw [hacc]
      have := (esc_length v (l.take k)).2
      rw [List.length_take] at this
      omega
    by_cases hlt : k < s.size
    · have hkl : k < l.length := by omega
      have e1 := s_byte HS.out k hlt hkl
      have hnext := esc_next v hkl
      rw [← hacc, ← e1] at hnext
      have HN := Lib.hid hnext
      clear hnext hacc e1 hsz
      generalize hc : s[k] = c at *
      have HC := Lib.hid hc
      by_cases h1 : c = 38
      · subst h1
        go_wp2_with fail
        refine (WriteString_any (s := ⟨#[38, 97, 109, 112, 59]⟩) (m := [38, 97, 109, 112, 59]) rfl hB (by simp; omega) hww).mono ?_
        rintro e W4 ⟨rfl, h4, b4, k4⟩
        go_wp2
        go_roundw
        case rel => exact ⟨k + 1, _, by go_num, by omega, h4, hbw.trans b4, HN.out.symm⟩
        case measure => simp [intOf]; omega
      · have q1 : ((c.toNat : Int) == 38) = false := u8_beq h1
        by_cases h2 : c = 60
        · subst h2
          go_wp2_with fail
          refine (WriteString_any (s := ⟨#[38, 108, 116, 59]⟩) (m := [38, 108, 116, 59]) rfl hB (by simp; omega) hww).mono ?_
          rintro e W4 ⟨rfl, h4, b4, k4⟩
          go_wp2
          go_roundw
          case rel => exact ⟨k + 1, _, by go_num, by omega, h4, hbw.trans b4, HN.out.symm⟩
          case measure => simp [intOf]; omega
        · have q2 : ((c.toNat : Int) == 60) = false := u8_beq h2
          by_cases h3 : c = 62
          · subst h3
            go_wp2_with fail
            refine (WriteString_any (s := ⟨#[38, 103, 116, 59]⟩) (m := [38, 103, 116, 59]) rfl hB (by simp; omega) hww).mono ?_
            rintro e W4 ⟨rfl, h4, b4, k4⟩
            go_wp2
            go_roundw
            case rel => exact ⟨k + 1, _, by go_num, by omega, h4, hbw.trans b4, HN.out.symm⟩
            case measure => simp [intOf]; omega
          · have q3 : ((c.toNat : Int) == 62) = false := u8_beq h3
            by_cases h4 : c = 34
            · subst h4
              cases v with
              | true =>
                go_wp2_with fail
                refine (WriteString_any (s := ⟨#[38, 113, 117, 111, 116, 59]⟩) (m := [38, 113, 117, 111, 116, 59]) rfl hB (by simp; omega) hww).mono ?_
                rintro e W4 ⟨rfl, h4, b4, k4⟩
                go_wp2
                go_roundw
                case rel => exact ⟨k + 1, _, by go_num, by omega, h4, hbw.trans b4, HN.out.symm⟩
                case measure => simp [intOf]; omega
              | false =>
                go_wp2_with fail
                refine (WriteByte_any 34 hB (by omega) hww).mono ?_
                rintro e W4 ⟨rfl, h4, b4, k4⟩
                go_wp2
                go_roundw
                case rel => exact ⟨k + 1, _, by go_num, by omega, h4, hbw.trans b4, HN.out.symm⟩
                case measure => simp [intOf]; omega
            · have q4 : ((c.toNat : Int) == 34) = false := u8_beq h4
              have HE := Lib.hid (escB_one v h1 h2 h3 (fun h => h4 h.1))
              clear h1 h2 h3 h4
              go_wp2_with fail
              refine (WriteByte_any c hB (by omega) hww).mono ?_
              rintro e W4 ⟨rfl, h4, b4, k4⟩
              go_wp2
              go_roundw
              case rel => exact ⟨k + 1, _, by go_num, by omega, h4, hbw.trans b4, by rw [HN.out, HE.out]⟩
              case measure => simp [intOf]; omega
    · have HE := Lib.hid (show acc = esc v l by rw [hacc, List.take_of_length_le (by omega)])
      clear hacc hsz
      go_wp2_with fail
      refine (BString_any hB hww).mono ?_
      rintro e W3 ⟨u, rfl, hu, _, b3, _⟩
      have HUU := Lib.hid hu
      go_wp2
      go_ret
      exact ⟨u, rfl, HE.out ▸ HUU.out, hbw.trans b3⟩
end Go.Proofs.YtnkelhmjkmeilaaGreatDoor
end
section
namespace Go.Proofs.YtnkelhmjkmeilaaGreatDoor
open Go.RowKit
structure Put (K : FuncId) (B b : Nat) (Inv : List UInt8 → World → Prop) : Prop where
  call : ∀ (l m : List UInt8) (w : World), Inv l w → l.length + m.length ≤ 100000000 → Calls Tryz.prog K #[.string ⟨m.toArray⟩, .pointer (some ⟨b, 0, none⟩)] w fun e w' =>
    e = .returned (.tuple #[]) ∧ Inv (l ++ m) w' ∧ Below B w w' ∧ Oth b w w'
  enter : ∀ (args : Array Value) (w : World), Sem.run Tryz.prog (callFunc K args) w = .ok (.enter K args) w
  keep : ∀ (l : List UInt8) (w w' : World), Inv l w → Lib.OthersKept 60 none w w' → Inv l w'
theorem oth_of_below {e : TypeId} {b : Option Nat} {w w' : World} (h : Below w.heap.size w w') : Lib.OthersKept e b w w' :=
  fun k o hk _ _ => by rw [h.block k (Array.getElem?_eq_some_iff.1 hk).1]; exact hk
def NodeAt (w : World) (B : Nat) (a : Addr) (n : Nd) : Prop := a.block < B ∧ ∃ A1 n1 c1 A2 n2 c2, 
    w.cell? a = some (.int .i64 n.kind) ∧ w.cell? (a.add 1) = some (sv n.name) ∧ w.cell? (a.add 2) = some (.slice A1 n1 c1) ∧
    w.cell? (a.add 3) = some (sv n.text) ∧ w.cell? (a.add 4) = some (.slice A2 n2 c2) ∧ n1 ≤ c1 ∧ Atrs w B A1 n1 n.attrs ∧ n2 ≤ c2 ∧ Nodes w B A2 n2 n.kids
theorem add0 (a : Addr) : a.add 0 = a := by unfold Addr.add; rw [if_pos rfl]
theorem Nodes.node {w : World} {B n : Nat} {A : Option Addr} {l : List Nd} (h : Nodes w B A n l) {k : Nat} (hk : k < n) (hk' : k < l.length) : ∃ a, A = some a ∧ NodeAt w B (a.add (k * 5)) l[k] := by
  obtain ⟨a, A1, n1, c1, A2, n2, c2, e, hb, h0, h1, h2, h3, h4, h5⟩ := h.at_ hk hk'
  refine ⟨a, e, by rw [block_add]; exact hb, A1, n1, c1, A2, n2, c2, h0, ?_, ?_, ?_, ?_, h5⟩ <;> rw [add_add] <;> assumption
theorem NodeAt.keep {w w' : World} {B : Nat} {a : Addr} {n : Nd} (h : NodeAt w B a n) (hb : Below B w w') : NodeAt w' B a n := by
  obtain ⟨h0, A1, n1, c1, A2, n2, c2, g0, g1, g2, g3, g4, g5, g6, g7, g8⟩ := h
  have hc : ∀ j, w'.cell? (a.add j) = w.cell? (a.add j) := fun j => hb.cell (by rw [block_add]; exact h0)
  exact ⟨h0, A1, n1, c1, A2, n2, c2, by rw [hb.cell h0]; exact g0, by rw [hc]; exact g1, by rw [hc]; exact g2, by rw [hc]; exact g3, by rw [hc]; exact g4, g5, g6.below hb, g7, g8.below hb⟩
section
variable {w w' : World} {B : Nat} {a : Addr} {n : Nd}
theorem NodeAt.k (h : NodeAt w B a n) : w.cell? a = some (.int .i64 n.kind) := by
  obtain ⟨h0, A1, n1, c1, A2, n2, c2, g0, _⟩ := h
  exact g0
theorem NodeAt.nm (h : NodeAt w B a n) : w.cell? ⟨a.block, a.off + 1, none⟩ = some (.string ⟨n.name.toArray⟩) := by
  obtain ⟨h0, A1, n1, c1, A2, n2, c2, g0, g1, _⟩ := h
  rw [add_pos a 1 (by omega)] at g1
  exact g1
theorem NodeAt.ats (h : NodeAt w B a n) : ∃ A c, w.cell? ⟨a.block, a.off + 2, none⟩ = some (.slice A n.attrs.length c) ∧ n.attrs.length ≤ c ∧ Atrs w B A n.attrs.length n.attrs := by
  obtain ⟨h0, A1, n1, c1, A2, n2, c2, g0, g1, g2, g3, g4, g5, g6, _⟩ := h
  rw [add_pos a 2 (by omega)] at g2
  have := g6.len
  subst this
  exact ⟨_, _, g2, g5, g6⟩
theorem NodeAt.tx (h : NodeAt w B a n) : w.cell? ⟨a.block, a.off + 3, none⟩ = some (.string ⟨n.text.toArray⟩) := by
  obtain ⟨h0, A1, n1, c1, A2, n2, c2, g0, g1, g2, g3, _⟩ := h
  rw [add_pos a 3 (by omega)] at g3
  exact g3
theorem NodeAt.kd (h : NodeAt w B a n) : ∃ A c, w.cell? ⟨a.block, a.off + 4, none⟩ = some (.slice A n.kids.length c) ∧ n.kids.length ≤ c ∧ Nodes w B A n.kids.length n.kids := by
  obtain ⟨h0, A1, n1, c1, A2, n2, c2, g0, g1, g2, g3, g4, g5, g6, g7, g8⟩ := h
  rw [add_pos a 4 (by omega)] at g4
  have := g8.len
  subst this
  exact ⟨_, _, g4, g7, g8⟩
end
set_option maxHeartbeats 1000000 in
set_option maxRecDepth 100000 in
theorem end_any {K : FuncId} {B b : Nat} {Inv : List UInt8 → World → Prop} (HP : Put K B b Inv) {w : World} {a : Addr} {n : Nd} {L : List UInt8} (hn : NodeAt w B a n) (hi : Inv L w) (hl : L.length + (clL n).length ≤ 100000000) :
    Calls Tryz.prog 22 #[.pointer (some a), .func (.func K) #[] #[.pointer (some ⟨b, 0, none⟩)]] w fun e w' => e = .returned (.tuple #[]) ∧ Inv (L ++ clL n) w' ∧ Below B w w' ∧ Oth b w w' := by
  have g0 := hn.k
  have g1 := hn.nm
  have hE := HP.enter
  by_cases hk : n.kind = 1
  · have q1 : (n.kind != 1) = false := by simp [hk]
    cases hv : voidL n.name
    · have hcl : clL n = [60, 47] ++ (n.name ++ [62]) := by simp [clL, hk, hv]
      have HV := Lib.hid hv
      rw [hcl] at hl ⊢
      simp only [List.length_append, List.length_cons, List.length_nil] at hl
      clear hcl hv
      go_enter Tryz.func22, Tryz.ntmps22
      go_wp2_with fail
      refine (dVoid_any n.name _).mono ?_
      rintro e W1 ⟨rfl, rfl⟩
      rw [HV.out]
      go_wp2_with fail
      refine (HP.call _ _ _ hi (by simp; omega)).mono ?_
      rintro e W2 ⟨rfl, i2, b2, k2⟩
      have n2 := (hn.keep b2).nm
      go_wp2_with fail
      refine (HP.call _ _ _ i2 (by simp; omega)).mono ?_
      rintro e W3 ⟨rfl, i3, b3, k3⟩
      go_wp2_with fail
      refine (HP.call _ _ _ i3 (by simp; omega)).mono ?_
      rintro e W4 ⟨rfl, i4, b4, k4⟩
      go_wp2
      go_end0
      exact ⟨rfl, by simpa using i4, (b2.trans b3).trans b4, (k2.trans k3).trans k4⟩
    · have hcl : clL n = [] := by simp [clL, hv]
      have HV := Lib.hid hv
      rw [hcl, List.append_nil]
      clear hcl hv
      go_enter Tryz.func22, Tryz.ntmps22
      go_wp2_with fail
      refine (dVoid_any n.name _).mono ?_
      rintro e W1 ⟨rfl, rfl⟩
      rw [HV.out]
      go_wp2
      refine bodyPost_ret (results_none rfl _ _ _) rfl ?_
      exact ⟨rfl, hi, Below.refl _ _, Lib.OthersKept.refl _ _ _⟩
  · have q1 : (n.kind != 1) = true := by simp [hk]
    have hcl : clL n = [] := by simp [clL, hk]
    rw [hcl, List.append_nil]
    clear hcl hk
    go_enter Tryz.func22, Tryz.ntmps22
    go_wp2
    refine bodyPost_ret (results_none rfl _ _ _) rfl ?_
    exact ⟨rfl, hi, Below.refl _ _, Lib.OthersKept.refl _ _ _⟩
end Go.Proofs.YtnkelhmjkmeilaaGreatDoor
end
section
namespace Go.Proofs.YtnkelhmjkmeilaaGreatDoor
open Go.RowKit
theorem Atrs.cells {w : World} {B n : Nat} {A : Option Addr} {l : List Atr} (h : Atrs w B A n l) {k : Nat} (hk : k < n) (hk' : k < l.length) :
    ∃ a, A = some a ∧ (a.add (k * 2)).block < B ∧ w.cell? (a.add (k * 2)) = some (.string ⟨l[k].1.toArray⟩) ∧ w.cell? ⟨(a.add (k * 2)).block, (a.add (k * 2)).off + 1, none⟩ = some (.string ⟨l[k].2.toArray⟩) := by
  obtain ⟨a, e, hb, h1, h2⟩ := h.at_ hk hk'
  refine ⟨a, e, by rw [block_add]; exact hb, h1, ?_⟩
  rw [← add_add, add_pos (a.add (k * 2)) 1 (by omega)] at h2
  exact h2
theorem box_kept {b g : Nat} {e T : TypeId} {w w' : World} {cs : Array Value} {fz : Nat × Nat} (h : Lib.OthersKept e (some b) w w') (hg : w.heap[g]? = some (.cells cs T fz)) (hgb : g ≠ b) (hT : T ≠ e) : w'.heap[g]? = some (.cells cs T fz) :=
  h g _ hg (fun e => hgb (Option.some.inj e)) (fun c fz' e => by injection e with _ e2; exact hT e2)
theorem flatAtr_snoc {l : List Atr} {k : Nat} (hk : k < l.length) : (l.take (k + 1)).flatMap atrL = (l.take k).flatMap atrL ++ atrL l[k] := by
  rw [List.take_succ_eq_append_getElem hk, List.flatMap_append]; simp
theorem flatAtr_le (l : List Atr) (k : Nat) : ((l.take k).flatMap atrL).length ≤ (l.flatMap atrL).length := by
  conv => rhs; rw [← List.take_append_drop k l, List.flatMap_append, List.length_append]
  omega
theorem atrL_le {l : List Atr} {k : Nat} (hk : k < l.length) : ((l.take k).flatMap atrL).length + (atrL l[k]).length ≤ (l.flatMap atrL).length := by
  have := flatAtr_le l (k + 1)
  rw [flatAtr_snoc hk, List.length_append] at this
  exact this
theorem atrL_length (a : Atr) : (atrL a).length = 4 + a.1.length + (esc true a.2).length := by
  simp only [atrL, List.length_append, List.length_cons, List.length_nil]; omega
set_option maxHeartbeats 4000000 in
set_option maxRecDepth 100000 in
theorem begin_any {K : FuncId} {B b : Nat} {Inv : List UInt8 → World → Prop} (HP : Put K B b Inv) {w : World} {a : Addr} {n : Nd} {L : List UInt8} (hB : B ≤ w.heap.size) (hb : b < w.heap.size) (hn : NodeAt w B a n) (hi : Inv L w) (hl : L.length + (opL n).length ≤ 1000000) :
    Calls Tryz.prog 23 #[.pointer (some a), .func (.func K) #[] #[.pointer (some ⟨b, 0, none⟩)]] w fun e w' => e = .returned (.tuple #[]) ∧ Inv (L ++ opL n) w' ∧ Below B w w' ∧ Lib.OthersKept 5 (some b) w w' := by
  have g0 := hn.k
  have g1 := hn.nm
  have hE := HP.enter
  by_cases hk : n.kind = 1
  · have q1 : (n.kind != 1) = false := by simp [hk]
    have hcl : opL n = [60] ++ (n.name ++ (n.attrs.flatMap atrL ++ [62])) := by simp [opL, hk]
    rw [hcl] at hl ⊢
    simp only [List.length_append, List.length_cons, List.length_nil] at hl
    clear hcl
    go_enter Tryz.func23, Tryz.ntmps23
    go_wp2_with fail
    refine (HP.call _ _ _ hi (by simp; omega)).mono ?_
    rintro e W2 ⟨rfl, i2, b2, k2⟩
    have hn2 := hn.keep b2
    have g2 := hn2.nm
    go_wp2_with fail
    refine (HP.call _ _ _ i2 (by simp; omega)).mono ?_
    rintro e W3 ⟨rfl, i3, b3, k3⟩
    have hn3 := hn2.keep b3
    obtain ⟨A, c, g3, hac, hats⟩ := hn3.ats
    have B3 := b2.trans b3
    have K3 := k2.trans k3
    clear b2 b3 k2 k3 g0 g1 g2
    have hal : n.attrs.length ≤ 1000000 := by
      have : ∀ l : List Atr, l.length ≤ (l.flatMap atrL).length := by
        intro l
        induction l with
        | nil => simp
        | cons x l ih => rw [List.flatMap_cons, List.length_append, List.length_cons, atrL_length]; omega
      have := this n.attrs
      omega
    go_wp2
    go_loopw [24] (fun i wr => ∃ k : Nat, i = .int .i64 k ∧ k ≤ n.attrs.length ∧ Inv (L ++ [60] ++ n.name ++ (n.attrs.take k).flatMap atrL) wr ∧ Below B w wr ∧ Lib.OthersKept 5 (some b) w wr ∧ Atrs wr B A n.attrs.length n.attrs) (fun i _ => n.attrs.length - (intOf i).toNat)
    case atStart => exact ⟨0, rfl, Nat.zero_le _, by simpa using i3, B3, K3, hats⟩
    case round =>
      obtain ⟨k, rfl, hk1, ir, br, kr, har⟩ := hrel
      by_cases hlt : k < n.attrs.length
      · obtain ⟨ad, rfl, hab, ga, gb⟩ := har.cells hlt hlt
        have hle := atrL_le hlt
        have hsn := Lib.hid (flatAtr_snoc hlt)
        have hlen := atrL_length n.attrs[k]
        have hel := (esc_length true n.attrs[k].2).1
        generalize n.attrs[k] = at_ at *
        have hrb := br.size
        have i0 := HP.keep _ _ _ ir (oth_of_below ((Below.refl _ wr).alloc (Nat.le_refl _) (.cells #[.string ⟨at_.1.toArray⟩, .string ⟨at_.2.toArray⟩] 78)))
        have box0 := heap_alloc_new wr (.cells #[.string ⟨at_.1.toArray⟩, .string ⟨at_.2.toArray⟩] 78)
        have hgb : wr.heap.size ≠ b := by omega
        go_wp2_with fail
        refine (HP.call _ _ _ i0 (by simp only [List.length_append, List.length_cons, List.length_nil]; omega)).mono ?_
        rintro e W4 ⟨rfl, i4, b4, k4⟩
        have box4 := box_kept k4 box0 hgb (by decide)
        have cA := Lib.cell_of_heap box4 0
        simp only [List.getElem?_toArray, List.getElem?_cons_zero] at cA
        go_wp2_with fail
        refine (HP.call _ _ _ i4 (by simp only [List.length_append, List.length_cons, List.length_nil]; omega)).mono ?_
        rintro e W5 ⟨rfl, i5, b5, k5⟩
        have box5 := box_kept k5 box4 hgb (by decide)
        clear cA
        go_wp2_with fail
        refine (HP.call _ _ _ i5 (by simp only [List.length_append, List.length_cons, List.length_nil]; omega)).mono ?_
        rintro e W6 ⟨rfl, i6, b6, k6⟩
        have box6 := box_kept k6 box5 hgb (by decide)
        have cB := Lib.cell_of_heap box6 1
        simp only [List.getElem?_toArray, List.getElem?_cons_succ, List.getElem?_cons_zero] at cB
        go_wp2_with fail
        refine (Escape_any (IsStr.mk at_.2) (by omega) true).mono ?_
        rintro e W7 ⟨t, rfl, ht, b7⟩
        obtain rfl := ht.to
        clear ht cB
        have i7 := HP.keep _ _ _ i6 (oth_of_below b7)
        go_wp2_with fail
        refine (HP.call _ _ _ i7 (by simp only [List.length_append, List.length_cons, List.length_nil]; omega)).mono ?_
        rintro e W8 ⟨rfl, i8, b8, k8⟩
        go_wp2_with fail
        refine (HP.call _ _ _ i8 (by simp only [List.length_append, List.length_cons, List.length_nil]; omega)).mono ?_
        rintro e W9 ⟨rfl, i9, b9, k9⟩
        have hs6 : wr.heap.size ≤ W6.heap.size := by have h4 := b4.size; have h5 := b5.size; have h6 := b6.size; simp at h4; omega
        have BB : Below B wr W9 := (((((((Below.refl B wr).alloc (by omega) _).trans b4).trans b5).trans b6).trans (b7.mono (by omega))).trans b8).trans b9
        have KK : Lib.OthersKept 5 (some b) wr W9 := (((((((Lib.OthersKept.refl _ _ wr).alloc _).trans k4).trans k5).trans k6).trans (oth_of_below b7)).trans k8).trans k9
        have ie : L ++ [60] ++ n.name ++ (n.attrs.take k).flatMap atrL ++ [32] ++ at_.1 ++ [61, 34] ++ esc true at_.2 ++ [34] = L ++ [60] ++ n.name ++ (n.attrs.take (k + 1)).flatMap atrL := by
          rw [hsn.out]; simp only [atrL, List.append_assoc]
        rw [ie] at i9
        clear ie
        have ha9 := har.below BB
        clear box0 box4 box5 box6 b4 b5 b6 b7 b8 b9 k4 k5 k6 k8 k9 i0 i4 i5 i6 i7 i8 ga gb har
        go_wp2
        go_roundw
        case rel => exact ⟨k + 1, by go_num, by omega, i9, br.trans BB, kr.trans KK, ha9⟩
        case measure => simp [intOf]; omega
      · rw [List.take_of_length_le (by omega)] at ir
        clear g3 har
        go_wp2_with fail
        refine (HP.call _ _ _ ir (by simp only [List.length_append, List.length_cons, List.length_nil]; omega)).mono ?_
        rintro e W4 ⟨rfl, i4, b4, k4⟩
        go_wp2
        go_end0
        exact ⟨rfl, by simpa using i4, br.trans b4, kr.trans k4⟩
  · have q1 : (n.kind != 1) = true := by simp [hk]
    have hcl : opL n = [] := by simp [opL, hk]
    rw [hcl, List.append_nil]
    clear hcl hk
    go_enter Tryz.func23, Tryz.ntmps23
    go_wp2
    refine bodyPost_ret (results_none rfl _ _ _) rfl ?_
    exact ⟨rfl, hi, Below.refl _ _, Lib.OthersKept.refl _ _ _⟩
end Go.Proofs.YtnkelhmjkmeilaaGreatDoor
end
