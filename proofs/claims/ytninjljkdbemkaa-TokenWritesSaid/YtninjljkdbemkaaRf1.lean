/- The walks of the reference of layer 1: follows, One. -/
import Derived.Test.YtninjljkdbemkaaUw
import Derived.Test.YtninjljkdbemkaaRf1p
namespace Go.Proofs.Ytninjljkdbemkaa
open Go.RowKit

theorem Rd.byte {w : World} {B n k : Nat} {A : Option Addr} {l : List UInt8} (h : Rd w B 1 A n (Lib.byteCells l)) (hk : k < n) :
    ∃ a, A = some a ∧ a.block < B ∧ w.cell? (a.add k) = some (.int .u8 (by_ l k)) := by
  obtain ⟨a, u, rfl, hb, hu, hc⟩ := h.at_ hk
  refine ⟨a, rfl, hb, ?_⟩
  have hl := h.len
  rw [Lib.byteCells_length] at hl
  rw [hc]
  simp only [Lib.byteCells, List.getElem?_map] at hu
  rw [List.getElem?_eq_getElem (by omega)] at hu
  simp only [Option.map_some, Option.some.injEq] at hu
  rw [← hu, by_, List.getD_eq_getElem?_getD, List.getElem?_eq_getElem (by omega)]
  rfl

/-- strainerref01.follows -/
theorem follows_yes (c : Nat) (w : World) (h : 128 ≤ c ∧ c < 192) : Calls Try.prog 67 #[.int .u8 c] w fun e w' => e = .returned (.bool true) ∧ w' = w := by
  obtain ⟨h1, h2⟩ := h
  go_enter Try.func67, Try.ntmps67
  go_wp2
  go_ret
  exact ⟨ret_bool (by simp; omega), rfl⟩
set_option maxRecDepth 100000 in
theorem follows_no (c : Nat) (w : World) (h : ¬ (128 ≤ c ∧ c < 192)) : Calls Try.prog 67 #[.int .u8 c] w fun e w' => e = .returned (.bool false) ∧ w' = w := by
  by_cases h1 : 128 ≤ c
  · have h2 : ¬ (c : Int) < 192 := by omega
    clear h
    go_enter Try.func67, Try.ntmps67
    go_wp2
    go_ret
    exact ⟨ret_bool (by first | (simp; done) | (simp; omega)), rfl⟩
  · clear h
    go_enter Try.func67, Try.ntmps67
    go_wp2
    go_ret
    exact ⟨ret_bool (by first | (simp; done) | (simp; omega)), rfl⟩

/-- what One tells -/
def IsOne (l : List UInt8) (e : Ending) : Prop := e = .returned (.tuple #[.int .i32 (Lib.decodeL l).1, .int .i64 (Lib.decodeL l).2])
theorem isOne {l : List UInt8} {a b : Nat} {x y : Int} (h : Lib.decodeL l = (a, b)) (hx : x = a) (hy : y = b) : IsOne l (.returned (.tuple #[.int .i32 x, .int .i64 y])) := by
  unfold IsOne; rw [h, hx, hy]

set_option maxRecDepth 100000 in
theorem One_ascii {w : World} {B n c : Nat} {A : Option Addr} {l : List UInt8} (hr : Rd w B 1 A n (Lib.byteCells l)) (hn : 1 ≤ n) (h : by_ l 0 < 128) :
    Calls Try.prog 50 #[.slice A n c] w fun e w' => IsOne l e ∧ w = w' := by
  obtain ⟨a, rfl, _, hc⟩ := hr.byte (k := 0) (by omega)
  rw [show a.add 0 = a from rfl] at hc
  have HD := Lib.hid (one_ascii h)
  generalize by_ l 0 = x at *
  go_enter Try.func50, Try.ntmps50
  go_wp2
  go_ret2
  exact ⟨isOne HD.out rfl rfl, rfl⟩

set_option maxRecDepth 100000 in
theorem One_stray {w : World} {B n c : Nat} {A : Option Addr} {l : List UInt8} (hr : Rd w B 1 A n (Lib.byteCells l)) (hn : 1 ≤ n) (h : (128 ≤ by_ l 0 ∧ by_ l 0 < 192) ∨ 248 ≤ by_ l 0) :
    Calls Try.prog 50 #[.slice A n c] w fun e w' => IsOne l e ∧ w = w' := by
  obtain ⟨a, rfl, _, hc⟩ := hr.byte (k := 0) (by omega)
  rw [show a.add 0 = a from rfl] at hc
  have HD := Lib.hid (one_stray h)
  have hb := by_lt l 0
  generalize by_ l 0 = x at *
  rcases h with ⟨h1, h2⟩ | h1
  all_goals
    go_enter Try.func50, Try.ntmps50
    go_wp2
    go_ret2
    exact ⟨isOne HD.out rfl rfl, rfl⟩

set_option maxRecDepth 100000 in
theorem One_short {w : World} {B n c K : Nat} {lead least : Int} {A : Option Addr} {l : List UInt8} (hr : Rd w B 1 A n (Lib.byteCells l)) (hn : 1 ≤ n) (hf : Form (by_ l 0) K lead least) (h : n < K) :
    Calls Try.prog 50 #[.slice A n c] w fun e w' => IsOne l e ∧ w = w' := by
  obtain ⟨a, rfl, _, hc⟩ := hr.byte (k := 0) (by omega)
  rw [show a.add 0 = a from rfl] at hc
  have hl := hr.len
  rw [Lib.byteCells_length] at hl
  have HD := Lib.hid (one_short hf (by omega))
  clear hl
  generalize by_ l 0 = x at *
  rcases hf with ⟨rfl, rfl, rfl, f1, f2⟩ | ⟨rfl, rfl, rfl, f1, f2⟩ | ⟨rfl, rfl, rfl, f1, f2⟩
  all_goals
    go_enter Try.func50, Try.ntmps50
    go_wp2
    go_ret2
    exact ⟨isOne HD.out rfl rfl, rfl⟩

set_option maxHeartbeats 2000000 in
set_option maxRecDepth 100000 in
theorem One_2 {w : World} {B n c : Nat} {A : Option Addr} {l : List UInt8} (hr : Rd w B 1 A n (Lib.byteCells l)) (f1 : 192 ≤ by_ l 0) (f2 : by_ l 0 < 224) (h : 2 ≤ n) (hn : n ≤ 1000000) :
    Calls Try.prog 50 #[.slice A n c] w fun e w' => IsOne l e ∧ w = w' := by
  have hf : Form (by_ l 0) 2 192 128 := by unfold Form; omega
  obtain ⟨a, rfl, _, hc⟩ := hr.byte (k := 0) (by omega)
  rw [show a.add 0 = a from rfl] at hc
  have hl := hr.len
  rw [Lib.byteCells_length] at hl
  have HS := Lib.hid fun k h1 h2 h3 => one_stops (k := k) hf h1 h2 h3
  have HB := Lib.hid (one_bad hf)
  have HG := Lib.hid (one_good hf (by omega))
  have HV := Lib.hid fun k h1 h2 => val_bd (k := k) hf h1 h2
  have HV0 := Lib.hid (val0 l 192)
  have HVS := Lib.hid fun k => (rfl : val l 192 (k + 1) = 64 * val l 192 k + (by_ l (k + 1) : Int) - 128)
  have HR := Lib.hid hr
  clear hl hr hf
  have hb0 := by_lt l 0
  generalize hx : by_ l 0 = x at *
  clear hx
  go_enter Try.func50, Try.ntmps50
  go_wp2
  go_loop [6, 8] (fun v i => ∃ k : Nat, i = .int .i64 ((k : Int) + 1) ∧ k + 1 ≤ 2 ∧ v = .int .i64 (val l 192 k) ∧ ∀ j, 1 ≤ j → j ≤ k → goes l j) (fun _ i => 4 - (intOf i).toNat)
  case atStart => exact ⟨0, rfl, by omega, by rw [HV0.out], fun j h1 h2 => by omega⟩
  case round =>
    obtain ⟨k, rfl, hk, rfl, hgo⟩ := hrel
    have HGO := Lib.hid hgo
    have hv := HV.out k (by omega) hgo
    clear hgo
    by_cases hlt : k + 1 < 2
    · obtain ⟨a', ha, _, hck⟩ := HR.out.byte (k := k + 1) (by omega)
      injection ha with ha
      subst ha
      have hbk := by_lt l (k + 1)
      rw [add_pos a (k + 1) (by omega)] at hck
      have g0 : (0 : Int) ≤ (k : Int) + 1 := by omega
      have g1 : (k : Int) + 1 < (n : Int) := by omega
      obtain ⟨hv0, hv1⟩ := hv
      obtain ⟨v', hv'⟩ : ∃ v', v' = val l 192 (k + 1) := ⟨_, rfl⟩
      have HVK := Lib.hid (hv'.trans (val_succ l 192 k))
      have HV' := Lib.hid hv'
      clear hv'
      by_cases hg : goes l (k + 1)
      · have hfo := follows_yes (by_ l (k + 1)) w hg
        have HFO := Lib.hid hfo
        have HGK := Lib.hid hg
        clear hfo hg
        generalize by_ l (k + 1) = y at *
        generalize val l 192 k = v at *
        go_wp2_with (go_at_call 67; refine HFO.out.mono ?_; rintro e w' ⟨rfl, rfl⟩)
        go_round
        case rel =>
          refine ⟨k + 1, by go_num, by omega, ?_, ?_⟩
          · rw [← HV'.out, HVK.out]
          · intro j h1 h2
            by_cases hj : j ≤ k
            · exact HGO.out j h1 hj
            · rw [show j = k + 1 by omega]; exact HGK.out
        case measure => simp [intOf]; omega
      · have hfo := follows_no (by_ l (k + 1)) w hg
        have HFO := Lib.hid hfo
        have HD := Lib.hid (HS.out (k + 1) (by omega) hlt hg)
        clear hfo hg
        generalize by_ l (k + 1) = y at *
        go_wp2_with (go_at_call 67; refine HFO.out.mono ?_; rintro e w' ⟨rfl, rfl⟩)
        go_ret2
        exact ⟨isOne HD.out rfl rfl, rfl⟩
    · obtain rfl : k = 1 := by omega
      have hgo : ∀ j, 1 ≤ j → j < 2 → goes l j := fun j h1 h2 => HGO.out j h1 (by omega)
      have HB' := Lib.hid (HB.out hgo)
      have HG' := Lib.hid (HG.out hgo)
      clear hgo
      obtain ⟨hv0, hv1⟩ := hv
      simp only [Nat.reduceSub] at HB' HG' hv0 hv1 ⊢
      generalize val l 192 (1) = v at *
      have hbad : (v < 128 ∨ v > 1114111 ∨ (55296 ≤ v ∧ v ≤ 57343)) → Lib.decodeL l = (65533, 1) := fun h => HB'.out h
      have hgood : ¬ (v < 128 ∨ v > 1114111 ∨ (55296 ≤ v ∧ v ≤ 57343)) → Lib.decodeL l = (v.toNat, 2) := fun h => HG'.out h
      have HBD := Lib.hid hbad
      have HGD := Lib.hid hgood
      clear hbad hgood HB' HG'
      by_cases h1 : v < 128
      · go_wp2
        go_ret2
        exact ⟨isOne (HBD.out (by omega)) rfl rfl, rfl⟩
      · by_cases h2 : v > 1114111
        · go_wp2
          go_ret2
          exact ⟨isOne (HBD.out (by omega)) rfl rfl, rfl⟩
        · by_cases h3 : 55296 ≤ v
          · by_cases h4 : v ≤ 57343
            · go_wp2
              go_ret2
              exact ⟨isOne (HBD.out (by omega)) rfl rfl, rfl⟩
            · go_wp2
              go_ret2
              exact ⟨isOne (HGD.out (by omega)) (by omega) rfl, rfl⟩
          · go_wp2
            go_ret2
            exact ⟨isOne (HGD.out (by omega)) (by omega) rfl, rfl⟩

set_option maxHeartbeats 2000000 in
set_option maxRecDepth 100000 in
theorem One_3 {w : World} {B n c : Nat} {A : Option Addr} {l : List UInt8} (hr : Rd w B 1 A n (Lib.byteCells l)) (f1 : 224 ≤ by_ l 0) (f2 : by_ l 0 < 240) (h : 3 ≤ n) (hn : n ≤ 1000000) :
    Calls Try.prog 50 #[.slice A n c] w fun e w' => IsOne l e ∧ w = w' := by
  have hf : Form (by_ l 0) 3 224 2048 := by unfold Form; omega
  obtain ⟨a, rfl, _, hc⟩ := hr.byte (k := 0) (by omega)
  rw [show a.add 0 = a from rfl] at hc
  have hl := hr.len
  rw [Lib.byteCells_length] at hl
  have HS := Lib.hid fun k h1 h2 h3 => one_stops (k := k) hf h1 h2 h3
  have HB := Lib.hid (one_bad hf)
  have HG := Lib.hid (one_good hf (by omega))
  have HV := Lib.hid fun k h1 h2 => val_bd (k := k) hf h1 h2
  have HV0 := Lib.hid (val0 l 224)
  have HVS := Lib.hid fun k => (rfl : val l 224 (k + 1) = 64 * val l 224 k + (by_ l (k + 1) : Int) - 128)
  have HR := Lib.hid hr
  clear hl hr hf
  have hb0 := by_lt l 0
  generalize hx : by_ l 0 = x at *
  clear hx
  go_enter Try.func50, Try.ntmps50
  go_wp2
  go_loop [6, 8] (fun v i => ∃ k : Nat, i = .int .i64 ((k : Int) + 1) ∧ k + 1 ≤ 3 ∧ v = .int .i64 (val l 224 k) ∧ ∀ j, 1 ≤ j → j ≤ k → goes l j) (fun _ i => 4 - (intOf i).toNat)
  case atStart => exact ⟨0, rfl, by omega, by rw [HV0.out], fun j h1 h2 => by omega⟩
  case round =>
    obtain ⟨k, rfl, hk, rfl, hgo⟩ := hrel
    have HGO := Lib.hid hgo
    have hv := HV.out k (by omega) hgo
    clear hgo
    by_cases hlt : k + 1 < 3
    · obtain ⟨a', ha, _, hck⟩ := HR.out.byte (k := k + 1) (by omega)
      injection ha with ha
      subst ha
      have hbk := by_lt l (k + 1)
      rw [add_pos a (k + 1) (by omega)] at hck
      have g0 : (0 : Int) ≤ (k : Int) + 1 := by omega
      have g1 : (k : Int) + 1 < (n : Int) := by omega
      obtain ⟨hv0, hv1⟩ := hv
      obtain ⟨v', hv'⟩ : ∃ v', v' = val l 224 (k + 1) := ⟨_, rfl⟩
      have HVK := Lib.hid (hv'.trans (val_succ l 224 k))
      have HV' := Lib.hid hv'
      clear hv'
      by_cases hg : goes l (k + 1)
      · have hfo := follows_yes (by_ l (k + 1)) w hg
        have HFO := Lib.hid hfo
        have HGK := Lib.hid hg
        clear hfo hg
        generalize by_ l (k + 1) = y at *
        generalize val l 224 k = v at *
        go_wp2_with (go_at_call 67; refine HFO.out.mono ?_; rintro e w' ⟨rfl, rfl⟩)
        go_round
        case rel =>
          refine ⟨k + 1, by go_num, by omega, ?_, ?_⟩
          · rw [← HV'.out, HVK.out]
          · intro j h1 h2
            by_cases hj : j ≤ k
            · exact HGO.out j h1 hj
            · rw [show j = k + 1 by omega]; exact HGK.out
        case measure => simp [intOf]; omega
      · have hfo := follows_no (by_ l (k + 1)) w hg
        have HFO := Lib.hid hfo
        have HD := Lib.hid (HS.out (k + 1) (by omega) hlt hg)
        clear hfo hg
        generalize by_ l (k + 1) = y at *
        go_wp2_with (go_at_call 67; refine HFO.out.mono ?_; rintro e w' ⟨rfl, rfl⟩)
        go_ret2
        exact ⟨isOne HD.out rfl rfl, rfl⟩
    · obtain rfl : k = 2 := by omega
      have hgo : ∀ j, 1 ≤ j → j < 3 → goes l j := fun j h1 h2 => HGO.out j h1 (by omega)
      have HB' := Lib.hid (HB.out hgo)
      have HG' := Lib.hid (HG.out hgo)
      clear hgo
      obtain ⟨hv0, hv1⟩ := hv
      simp only [Nat.reduceSub] at HB' HG' hv0 hv1 ⊢
      generalize val l 224 (2) = v at *
      have hbad : (v < 2048 ∨ v > 1114111 ∨ (55296 ≤ v ∧ v ≤ 57343)) → Lib.decodeL l = (65533, 1) := fun h => HB'.out h
      have hgood : ¬ (v < 2048 ∨ v > 1114111 ∨ (55296 ≤ v ∧ v ≤ 57343)) → Lib.decodeL l = (v.toNat, 3) := fun h => HG'.out h
      have HBD := Lib.hid hbad
      have HGD := Lib.hid hgood
      clear hbad hgood HB' HG'
      by_cases h1 : v < 2048
      · go_wp2
        go_ret2
        exact ⟨isOne (HBD.out (by omega)) rfl rfl, rfl⟩
      · by_cases h2 : v > 1114111
        · go_wp2
          go_ret2
          exact ⟨isOne (HBD.out (by omega)) rfl rfl, rfl⟩
        · by_cases h3 : 55296 ≤ v
          · by_cases h4 : v ≤ 57343
            · go_wp2
              go_ret2
              exact ⟨isOne (HBD.out (by omega)) rfl rfl, rfl⟩
            · go_wp2
              go_ret2
              exact ⟨isOne (HGD.out (by omega)) (by omega) rfl, rfl⟩
          · go_wp2
            go_ret2
            exact ⟨isOne (HGD.out (by omega)) (by omega) rfl, rfl⟩

set_option maxHeartbeats 2000000 in
set_option maxRecDepth 100000 in
theorem One_4 {w : World} {B n c : Nat} {A : Option Addr} {l : List UInt8} (hr : Rd w B 1 A n (Lib.byteCells l)) (f1 : 240 ≤ by_ l 0) (f2 : by_ l 0 < 248) (h : 4 ≤ n) (hn : n ≤ 1000000) :
    Calls Try.prog 50 #[.slice A n c] w fun e w' => IsOne l e ∧ w = w' := by
  have hf : Form (by_ l 0) 4 240 65536 := by unfold Form; omega
  obtain ⟨a, rfl, _, hc⟩ := hr.byte (k := 0) (by omega)
  rw [show a.add 0 = a from rfl] at hc
  have hl := hr.len
  rw [Lib.byteCells_length] at hl
  have HS := Lib.hid fun k h1 h2 h3 => one_stops (k := k) hf h1 h2 h3
  have HB := Lib.hid (one_bad hf)
  have HG := Lib.hid (one_good hf (by omega))
  have HV := Lib.hid fun k h1 h2 => val_bd (k := k) hf h1 h2
  have HV0 := Lib.hid (val0 l 240)
  have HVS := Lib.hid fun k => (rfl : val l 240 (k + 1) = 64 * val l 240 k + (by_ l (k + 1) : Int) - 128)
  have HR := Lib.hid hr
  clear hl hr hf
  have hb0 := by_lt l 0
  generalize hx : by_ l 0 = x at *
  clear hx
  go_enter Try.func50, Try.ntmps50
  go_wp2
  go_loop [6, 8] (fun v i => ∃ k : Nat, i = .int .i64 ((k : Int) + 1) ∧ k + 1 ≤ 4 ∧ v = .int .i64 (val l 240 k) ∧ ∀ j, 1 ≤ j → j ≤ k → goes l j) (fun _ i => 4 - (intOf i).toNat)
  case atStart => exact ⟨0, rfl, by omega, by rw [HV0.out], fun j h1 h2 => by omega⟩
  case round =>
    obtain ⟨k, rfl, hk, rfl, hgo⟩ := hrel
    have HGO := Lib.hid hgo
    have hv := HV.out k (by omega) hgo
    clear hgo
    by_cases hlt : k + 1 < 4
    · obtain ⟨a', ha, _, hck⟩ := HR.out.byte (k := k + 1) (by omega)
      injection ha with ha
      subst ha
      have hbk := by_lt l (k + 1)
      rw [add_pos a (k + 1) (by omega)] at hck
      have g0 : (0 : Int) ≤ (k : Int) + 1 := by omega
      have g1 : (k : Int) + 1 < (n : Int) := by omega
      obtain ⟨hv0, hv1⟩ := hv
      obtain ⟨v', hv'⟩ : ∃ v', v' = val l 240 (k + 1) := ⟨_, rfl⟩
      have HVK := Lib.hid (hv'.trans (val_succ l 240 k))
      have HV' := Lib.hid hv'
      clear hv'
      by_cases hg : goes l (k + 1)
      · have hfo := follows_yes (by_ l (k + 1)) w hg
        have HFO := Lib.hid hfo
        have HGK := Lib.hid hg
        clear hfo hg
        generalize by_ l (k + 1) = y at *
        generalize val l 240 k = v at *
        go_wp2_with (go_at_call 67; refine HFO.out.mono ?_; rintro e w' ⟨rfl, rfl⟩)
        go_round
        case rel =>
          refine ⟨k + 1, by go_num, by omega, ?_, ?_⟩
          · rw [← HV'.out, HVK.out]
          · intro j h1 h2
            by_cases hj : j ≤ k
            · exact HGO.out j h1 hj
            · rw [show j = k + 1 by omega]; exact HGK.out
        case measure => simp [intOf]; omega
      · have hfo := follows_no (by_ l (k + 1)) w hg
        have HFO := Lib.hid hfo
        have HD := Lib.hid (HS.out (k + 1) (by omega) hlt hg)
        clear hfo hg
        generalize by_ l (k + 1) = y at *
        go_wp2_with (go_at_call 67; refine HFO.out.mono ?_; rintro e w' ⟨rfl, rfl⟩)
        go_ret2
        exact ⟨isOne HD.out rfl rfl, rfl⟩
    · obtain rfl : k = 3 := by omega
      have hgo : ∀ j, 1 ≤ j → j < 4 → goes l j := fun j h1 h2 => HGO.out j h1 (by omega)
      have HB' := Lib.hid (HB.out hgo)
      have HG' := Lib.hid (HG.out hgo)
      clear hgo
      obtain ⟨hv0, hv1⟩ := hv
      simp only [Nat.reduceSub] at HB' HG' hv0 hv1 ⊢
      generalize val l 240 (3) = v at *
      have hbad : (v < 65536 ∨ v > 1114111 ∨ (55296 ≤ v ∧ v ≤ 57343)) → Lib.decodeL l = (65533, 1) := fun h => HB'.out h
      have hgood : ¬ (v < 65536 ∨ v > 1114111 ∨ (55296 ≤ v ∧ v ≤ 57343)) → Lib.decodeL l = (v.toNat, 4) := fun h => HG'.out h
      have HBD := Lib.hid hbad
      have HGD := Lib.hid hgood
      clear hbad hgood HB' HG'
      by_cases h1 : v < 65536
      · go_wp2
        go_ret2
        exact ⟨isOne (HBD.out (by omega)) rfl rfl, rfl⟩
      · by_cases h2 : v > 1114111
        · go_wp2
          go_ret2
          exact ⟨isOne (HBD.out (by omega)) rfl rfl, rfl⟩
        · by_cases h3 : 55296 ≤ v
          · by_cases h4 : v ≤ 57343
            · go_wp2
              go_ret2
              exact ⟨isOne (HBD.out (by omega)) rfl rfl, rfl⟩
            · go_wp2
              go_ret2
              exact ⟨isOne (HGD.out (by omega)) (by omega) rfl, rfl⟩
          · go_wp2
            go_ret2
            exact ⟨isOne (HGD.out (by omega)) (by omega) rfl, rfl⟩


/-- strainerref01.One: the character at the beginning of bytes (there is one at least), and how many bytes it has -/
theorem One_any {w : World} {B n c : Nat} {A : Option Addr} {l : List UInt8} (hr : Rd w B 1 A n (Lib.byteCells l)) (h1 : 1 ≤ n) (hn : n ≤ 1000000) :
    Calls Try.prog 50 #[.slice A n c] w fun e w' => IsOne l e ∧ w = w' := by
  by_cases ha : by_ l 0 < 128
  · exact One_ascii hr h1 ha
  · by_cases hb : by_ l 0 < 192 ∨ 248 ≤ by_ l 0
    · exact One_stray hr h1 (by omega)
    · by_cases h2 : by_ l 0 < 224
      · by_cases hk : n < 2
        · exact One_short (K := 2) (lead := 192) (least := 128) hr h1 (by unfold Form; omega) hk
        · exact One_2 hr (by omega) h2 (by omega) hn
      · by_cases h3 : by_ l 0 < 240
        · by_cases hk : n < 3
          · exact One_short (K := 3) (lead := 224) (least := 2048) hr h1 (by unfold Form; omega) hk
          · exact One_3 hr (by omega) h3 (by omega) hn
        · by_cases hk : n < 4
          · exact One_short (K := 4) (lead := 240) (least := 65536) hr h1 (by unfold Form; omega) hk
          · exact One_4 hr (by omega) (by omega) (by omega) hn
end Go.Proofs.Ytninjljkdbemkaa
