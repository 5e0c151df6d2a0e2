/- strainerref07: count, Open. -/
import Derived.Test.YtlfkipilgdeemaaKu
import Derived.Test.YtlfkipilgdeemaaKr
namespace Go.Proofs.Ytlfkipilgdeemaa
open Go.RowKit Go.Maps Go.WideMaps
attribute [local go_sem ↓] Go.wp_at_zero Go.wp_at_succ

/-- a path leads somewhere -/
def PathOk : List Nd → List Nat → Prop
  | _, [] => True
  | l, i :: p => i < l.length ∧ PathOk (l.getD i dNd).kids p
def intsOf (P : List Nat) : List Value := P.map fun (i : Nat) => Value.int .i64 (i : Int)
theorem intsOf_at {P : List Nat} {k : Nat} (hk : k < P.length) : (intsOf P)[k]? = some (.int .i64 (P[k] : Int)) := by simp [intsOf, hk]
theorem intsOf_length (P : List Nat) : (intsOf P).length = P.length := by simp [intsOf]

set_option maxHeartbeats 1000000 in
set_option maxRecDepth 100000 in
/-- count -/
theorem count_any {w : World} {A AP : Option Addr} {c cP : Nat} {l : List Nd} {P : List Nat} (hN : Nodes w w.heap.size A l.length l) (hc : l.length ≤ c) (hP : Rd w w.heap.size 1 AP P.length (intsOf P)) (hPl : P.length ≤ 1000) (hp : PathOk l P) :
    Calls Try.prog 27 #[.slice A l.length c, .slice AP P.length cP] w fun e w' => e = .returned (.int .i64 (rCount l P)) ∧ w' = w := by
  go_enter Try.func27, Try.ntmps27
  go_wp2
  go_loopw [0, 5] (fun lv iv wr => ∃ (k : Nat) (A1 : Option Addr) (c1 : Nat) (l1 : List Nd), lv = .slice A1 l1.length c1 ∧ iv = .int .i64 k ∧ k ≤ P.length ∧ Nodes w w.heap.size A1 l1.length l1 ∧ l1.length ≤ c1 ∧ PathOk l1 (P.drop k) ∧ Hid (rCount l1 (P.drop k) = rCount l P) ∧ wr = w) (fun _ iv _ => P.length - (intOf iv).toNat)
  case atStart => exact ⟨0, A, c, l, rfl, rfl, Nat.zero_le _, hN, hc, hp, rfl, rfl⟩
  case round =>
    obtain ⟨k, A1, c1, l1, rfl, rfl, hk, hN1, hc1, hp1, hr, rfl⟩ := hrel
    by_cases hlt : k < P.length
    · obtain ⟨a, u, rfl, hab, hu, hca⟩ := hP.at_ hlt
      rw [intsOf_at hlt] at hu
      injection hu with hu
      subst hu
      rw [List.drop_eq_getElem_cons hlt] at hp1 hr
      obtain ⟨hil, hp2⟩ := hp1
      have HR := Lib.hid (hr.out)
      clear hr
      generalize P[k] = i at *
      obtain ⟨b, rfl, hnb⟩ := hN1.node hil hil
      have hgd : l1.getD i dNd = l1[i] := by simp [List.getD, List.getElem?_eq_getElem hil]
      rw [hgd] at hp2
      have HR2 := Lib.hid (show rCount l1[i].kids (P.drop (k + 1)) = rCount l P by rw [← HR.out, rCount, hgd])
      obtain ⟨A3, c3, gd, hdc, hkd⟩ := hnb.kd
      generalize l1[i] = nd at *
      have HP2 := Lib.hid hp2
      have hiI : (i : Int) < (l1.length : Int) := by omega
      have hi0 : (0 : Int) ≤ (i : Int) := by omega
      clear hp2 hgd hnb hN1 HR
      go_wp2
      go_roundw
      case rel => exact ⟨k + 1, A3, c3, nd.kids, rfl, by go_num, by omega, hkd, hdc, HP2.out, HR2.out, trivial⟩
      case measure => simp [intOf]; omega
    · obtain rfl : k = P.length := by omega
      have HR := Lib.hid (hr.out)
      clear hr
      go_wp2
      go_ret
      refine ⟨?_, rfl⟩
      have := HR.out
      rw [List.drop_length, rCount] at this
      exact ret_int (by rw [this])

set_option maxHeartbeats 2000000 in
set_option maxRecDepth 100000 in
/-- Open -/
theorem rOpen_any {w : World} {A AP : Option Addr} {c cP : Nat} {l : List Nd} {P : List Nat} (hN : Nodes w w.heap.size A l.length l) (hc : l.length ≤ c) (hP : Rd w w.heap.size 1 AP P.length (intsOf P)) (hPl : P.length ≤ 1000) (hp : PathOk l P) :
    Calls Try.prog 26 #[.agg #[.slice A l.length c, .slice AP P.length cP]] w fun e w' => ∃ A' c', e = .returned (.slice A' P.length c') ∧ P.length ≤ c' ∧ Rd w' w'.heap.size 1 A' P.length ((rOpen l P).map sv) ∧ Below w.heap.size w w' := by
  have hbx := heap_alloc_new w (.cells #[.slice A l.length c, .slice AP P.length cP] 60)
  have b0 : Below w.heap.size w (w.alloc (.cells #[.slice A l.length c, .slice AP P.length cP] 60)) := (Below.refl _ w).alloc (Nat.le_refl _) _
  have s0 : (w.alloc (.cells #[.slice A l.length c, .slice AP P.length cP] 60)).heap.size = w.heap.size + 1 := World.size_alloc _ _
  go_enter Try.func26, Try.ntmps26
  go_wp2
  go_loopw [3, 4, 5] (fun v lv iv wr => ∃ (k : Nat) (A1 A2 : Option Addr) (c1 c2 : Nat) (l1 : List Nd) (os : List (List UInt8)), v = .slice A2 k c2 ∧ lv = .slice A1 l1.length c1 ∧ iv = .int .i64 k ∧ k ≤ P.length ∧ Nodes wr w.heap.size A1 l1.length l1 ∧ l1.length ≤ c1 ∧ PathOk l1 (P.drop k) ∧
      Hid (os ++ rOpen l1 (P.drop k) = rOpen l P) ∧ k ≤ c2 ∧ wr.ownsRow (w.heap.size + 1) 9 1 (.slice A2 k c2) k (os.map sv) ∧ Below (w.heap.size + 1) (w.alloc (.cells #[.slice A l.length c, .slice AP P.length cP] 60)) wr) (fun _ _ iv _ => P.length - (intOf iv).toNat)
  case atStart => exact ⟨0, A, none, c, 0, l, [], rfl, rfl, rfl, Nat.zero_le _, hN.below b0, hc, hp, rfl, Nat.le_refl _, World.ownsRow_nil _ _ _ _, Below.refl _ _⟩
  case round =>
    obtain ⟨k, A1, A2, c1, c2, l1, os, rfl, rfl, rfl, hk, hN1, hc1, hp1, hr, hkc, hown, hw⟩ := hrel
    have hbw := (hw.block w.heap.size (by omega)).trans hbx
    have g1 := Lib.cell_of_heap hbw 1
    simp only [List.getElem?_toArray, List.getElem?_cons_zero, List.getElem?_cons_succ] at g1
    have hww : Below w.heap.size w wr := b0.trans (hw.mono (by omega))
    have hsw : w.heap.size + 1 ≤ wr.heap.size := by have := hw.size; omega
    by_cases hlt : k < P.length
    · obtain ⟨a, u, rfl, hab, hu, hca0⟩ := hP.at_ hlt
      have hca := (hww.cell (p := a.add k) (by rw [block_add]; exact hab)).trans hca0
      rw [intsOf_at hlt] at hu
      injection hu with hu
      subst hu
      rw [List.drop_eq_getElem_cons hlt] at hp1 hr
      obtain ⟨hil, hp2⟩ := hp1
      have HR := Lib.hid (hr.out)
      clear hr
      generalize P[k] = i at *
      obtain ⟨b, rfl, hnb⟩ := hN1.node hil hil
      have hgd : l1.getD i dNd = l1[i] := by simp [List.getD, List.getElem?_eq_getElem hil]
      rw [hgd] at hp2
      have HR2 := Lib.hid (show (os ++ [l1[i].name]) ++ rOpen l1[i].kids (P.drop (k + 1)) = rOpen l P by rw [← HR.out, rOpen, hgd, List.append_assoc]; rfl)
      obtain ⟨A3, c3, gd, hdc, hkd⟩ := hnb.kd
      have gn := hnb.nm
      have hnbb := hnb.1
      generalize l1[i] = nd at *
      have HP2 := Lib.hid hp2
      have hiI : (i : Int) < (l1.length : Int) := by omega
      have hi0 : (0 : Int) ≤ (i : Int) := by omega
      clear hp2 hgd hnb hN1 HR hca0
      go_upto_region 7 with (at_builtin; go_must (refine wpList_push_at rfl _ _ _ rfl (w.heap.size + 1) rowSt A2 k c2 _ rfl hown [.string ⟨nd.name.toArray⟩] _ rfl rfl (by simp [Value.oneCell']) (by unfold maxLen; omega) (by omega) hsw ?_))
      intro A4 c4 w4 hc4 ho4 hg4 hat4
      have b4 : Below (w.heap.size + 1) wr w4 := (Below.refl _ wr).grown hg4 hsw (own_ge hown)
      have gd4 := (b4.cell (p := ⟨(b.add (i * 5)).block, (b.add (i * 5)).off + 4, none⟩) (Nat.lt_succ_of_lt hnbb)).trans gd
      have g14 := (b4.cell (p := ⟨w.heap.size, 1, none⟩) (Nat.lt_succ_self _)).trans g1
      have hca4 := (b4.cell (p := a.add k) (by rw [block_add]; omega)).trans hca
      have HKD := Lib.hid (hkd.below (b4.mono (Nat.le_succ _)))
      have HO4 := Lib.hid (show w4.ownsRow (w.heap.size + 1) 9 1 (.slice A4 (k + 1) c4) (k + 1) ((os ++ [nd.name]).map sv) by simpa [sv] using ho4)
      have hc4' : k + 1 ≤ c4 := hc4
      clear hg4 hat4 ho4 hkd gd g1 hca hown
      go_wp2
      go_roundw
      case rel => exact ⟨k + 1, A3, A4, c3, c4, nd.kids, os ++ [nd.name], rfl, rfl, by go_num, by omega, HKD.out, hdc, HP2.out, HR2.out, hc4', HO4.out, hw.trans b4⟩
      case measure => simp [intOf]; omega
    · obtain rfl : k = P.length := by omega
      have hos : os = rOpen l P := by
        have := hr.out
        rw [List.drop_length, rOpen, List.append_nil] at this
        exact this
      rw [hos] at hown
      have HRD := Lib.hid (Rd.of_own hown)
      clear hr hown hos
      go_wp2
      go_ret
      exact ⟨A2, c2, rfl, hkc, HRD.out, hww⟩
end Go.Proofs.Ytlfkipilgdeemaa
