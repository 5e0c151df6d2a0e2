/- The document's side and May where they hold. -/
import Derived.Test.YtfiojodpcpkiaaaHK
namespace Go.Proofs.Ytfiojodpcpkiaaa
open Go.RowKit Go.Maps Go.WideMaps
attribute [local go_sem ↓] Go.wp_at_zero Go.wp_at_succ

set_option maxHeartbeats 2000000 in
set_option maxRecDepth 100000 in
theorem side_yes {w : World} {s : Sd} {A D : Option Addr} {a1 d1 K o : Nat} (H : SdV w (fun b => b < w.heap.size) s A a1 D d1) (hO : SdOk s K o) (hn : s.out.length ≤ 200) (hK : K ≤ 200) (ho : o ≤ 200) :
    Calls Try.prog 26 #[sdVal s A a1 D d1, .int .i64 (K : Int), .int .i64 (o : Int)] w fun e w' => e = .returned (.bool true) ∧ Below w.heap.size w w' := by
  have hB0 := (Below.refl _ w).alloc (Nat.le_refl _) (.cells #[.slice A s.nx.length a1, .slice D s.out.length d1] 26)
  have hx0 := heap_alloc_new w (.cells #[.slice A s.nx.length a1, .slice D s.out.length d1] 26)
  have HLN := Lib.hid hO.len
  have hpos := hO.pos
  go_enter Try.func26, Try.ntmps26
  go_upto_region 1 with fail
  generalize w.alloc (.cells #[.slice A s.nx.length a1, .slice D s.out.length d1] 26) = W1 at *
  have x0 := Lib.cell_of_heap hx0 0
  have x1 := Lib.cell_of_heap hx0 1
  simp only [List.getElem?_toArray, List.getElem?_cons_zero, List.getElem?_cons_succ] at x0 x1
  have HV := Lib.hid (H.on hB0)
  have HB := Lib.hid hB0
  have HO := Lib.hid hO
  rw [HLN.out] at x0
  have HV' := Lib.hid (show SlP W1 (fun b => b < W1.heap.size) 1 A s.out.length (s.nx.map rowC) by rw [← HLN.out]; exact HV.out.nx)
  clear H hB0 hx0 hO
  generalize hnn : s.out.length = n at *
  have HNN := Lib.hid hnn
  clear hnn
  have e1 : ((n : Int) == (n : Int)) = true := by simp
  have e2 : ((n : Int) != (n : Int)) = false := by simp
  have p1 : ¬ (n : Int) < 1 := by omega
  have p2 : ¬ (200 : Int) < (n : Int) := by omega
  go_wp2
  go_loop [8] (fun iv => ∃ i : Nat, iv = .int .i64 i ∧ i ≤ n) (fun iv => n - (intOf iv).toNat)
  case atStart => exact ⟨0, rfl, Nat.zero_le _⟩
  case round =>
    obtain ⟨i, rfl, hi⟩ := hrel
    by_cases hlt : i < n
    · obtain ⟨r, hr⟩ : ∃ r, s.nx[i]? = some r := ⟨_, List.getElem?_eq_getElem (by rw [HLN.out]; exact hlt)⟩
      obtain ⟨a, R, rc, rfl, hab, k0, hrc, hrow⟩ := rows_at HV'.out hr
      obtain ⟨x, hx⟩ : ∃ x, s.out[i]? = some x := ⟨_, List.getElem?_eq_getElem (by rw [HNN.out]; exact hlt)⟩
      obtain ⟨b, rfl, hbb, k1⟩ := ints_at' (show SlP W1 (fun b => b < W1.heap.size) 1 D n (s.out.map .i) by rw [← HNN.out]; exact HV.out.out) hx
      obtain ⟨hx1, hx2⟩ := HO.out.outs x (List.mem_of_getElem? hx)
      obtain ⟨hrl, hrv⟩ := HO.out.rows r (List.mem_of_getElem? hr)
      rw [hrl] at k0
      rw [HNN.out] at hrv
      have HRW := Lib.hid hrow
      have HRV := Lib.hid hrv
      have HRL := Lib.hid hrl
      have q1 : ((K : Int) == (K : Int)) = true := by simp
      have q2 : ((K : Int) != (K : Int)) = false := by simp
      have hx1' : ¬ x < 0 := by omega
      have hx2' : ¬ (o : Int) ≤ x := by omega
      have hiI : (i : Int) < (n : Int) := by omega
      have hi0 : (0 : Int) ≤ (i : Int) := by omega
      clear hrow hrv hrl hr hx hrc
      go_wp2
      go_loop [9] (fun vv => ∃ v : Nat, vv = .int .i64 v ∧ v ≤ K) (fun vv => K - (intOf vv).toNat)
      case atStart => exact ⟨0, rfl, Nat.zero_le _⟩
      case round =>
        obtain ⟨v, rfl, hv⟩ := hrel
        by_cases hvl : v < K
        · obtain ⟨y, hy⟩ : ∃ y, r[v]? = some y := ⟨_, List.getElem?_eq_getElem (by rw [HRL.out]; exact hvl)⟩
          obtain ⟨c, rfl, hcb, k2⟩ := ints_at' HRW.out hy
          obtain ⟨hy1, hy2⟩ := HRV.out y (List.mem_of_getElem? hy)
          have hy1' : ¬ y < 0 := by omega
          have hy2' : ¬ (n : Int) ≤ y := by omega
          have hvI : (v : Int) < (K : Int) := by omega
          have hv0 : (0 : Int) ≤ (v : Int) := by omega
          clear hy
          go_wp2
          go_round
          case rel => exact ⟨v + 1, by go_num, by omega⟩
          case measure => simp [intOf]; omega
        · obtain rfl : v = K := by omega
          have hvI : ¬ (v : Int) < (v : Int) := by omega
          go_wp2
          go_round
          case rel => exact ⟨i + 1, by go_num, by omega⟩
          case measure => simp [intOf]; omega
    · obtain rfl : i = n := by omega
      have hiI : ¬ (i : Int) < (i : Int) := by omega
      go_wp2
      go_ret
      exact ⟨rfl, HB.out⟩
set_option maxHeartbeats 2000000 in
set_option maxRecDepth 100000 in
theorem rmay_yes {w : World} {h : Hd} {A B C : Option Addr} {c c1 c2 m : Nat} (H : HdV w (fun b => b < w.heap.size) h A c B c1 C c2) (hO : HdOk h m) (hm : m ≤ 200) :
    Calls Try.prog 9 #[hdVal h A c B c1 C c2] w fun e w' => e = .returned (.bool true) ∧ Below w.heap.size w w' := by
  obtain ⟨K, hK⟩ : ∃ K : Nat, h.K = (K : Int) := ⟨h.K.toNat, (Int.toNat_of_nonneg (by have := hO.K1; omega)).symm⟩
  have hKt : h.K.toNat = K := by rw [hK]; exact Int.toNat_natCast K
  have hK1 : 1 ≤ K := by have := hO.K1; omega
  have hK2 : K ≤ 200 := by have := hO.fewK; omega
  have hB0 := (Below.refl _ w).alloc (Nat.le_refl _) (.cells #[.int .i64 (K : Int), .slice A h.labs.length c, .slice B h.root.nx.length c1, .slice C h.root.out.length c2] 28)
  have hx0 := heap_alloc_new w (.cells #[.int .i64 (K : Int), .slice A h.labs.length c, .slice B h.root.nx.length c1, .slice C h.root.out.length c2] 28)
  have hLb := hO.fewL
  unfold hdVal
  rw [hK]
  have HKT := Lib.hid hKt
  clear hK hKt
  go_enter Try.func9, Try.ntmps9
  go_upto_region 1 with fail
  generalize w.alloc (.cells #[.int .i64 (K : Int), .slice A h.labs.length c, .slice B h.root.nx.length c1, .slice C h.root.out.length c2] 28) = W1 at *
  have x0 := Lib.cell_of_heap hx0 0
  have x1 := Lib.cell_of_heap hx0 1
  have x2 := Lib.cell_of_heap hx0 2
  have x3 := Lib.cell_of_heap hx0 3
  simp only [List.getElem?_toArray, List.getElem?_cons_zero, List.getElem?_cons_succ] at x0 x1 x2 x3
  have hwl := (Array.getElem?_eq_some_iff.1 hx0).1
  have HV := Lib.hid (H.on hB0)
  have HB := Lib.hid hB0
  have HX := Lib.hid hx0
  clear H hB0 hx0
  go_wp2
  go_loopw [3] (fun iv wr => ∃ i : Nat, iv = .int .i64 i ∧ i ≤ h.labs.length ∧ Below W1.heap.size W1 wr) (fun iv _ => h.labs.length - (intOf iv).toNat)
  case atStart => exact ⟨0, rfl, Nat.zero_le _, Below.refl _ _⟩
  case round =>
    obtain ⟨i, rfl, hi, hbr⟩ := hrel
    obtain ⟨wo, rfl⟩ : ∃ wo : World, wo = wr := ⟨_, rfl⟩
    have hx4 := (hbr.block _ hwl).trans HX.out
    have hwlo := (Array.getElem?_eq_some_iff.1 hx4).1
    have z0 := Lib.cell_of_heap hx4 0
    have z1 := Lib.cell_of_heap hx4 1
    have z2 := Lib.cell_of_heap hx4 2
    have z3 := Lib.cell_of_heap hx4 3
    simp only [List.getElem?_toArray, List.getElem?_cons_zero, List.getElem?_cons_succ] at z0 z1 z2 z3
    have HVo := Lib.hid (HV.out.on hbr)
    have HBR := Lib.hid hbr
    clear hx4 hbr x0 x1 x2 x3
    by_cases hlt : i < h.labs.length
    · obtain ⟨a, B', c1', C', c2', rfl, hab, k0, k1, hsd⟩ := labs_at HVo.out.labs (Hd.side_lt hlt)
      have hside := (hO.sideOk i).1
      rw [if_pos hlt, HKT.out] at hside
      have hss := (hO.sideOk i).2
      have HSD := Lib.hid hsd
      generalize h.side i = sd at *
      have hab2 : (a.add (i * 2)).block < wo.heap.size := by rw [block_add]; exact hab
      have r0 := fun w' (hw' : Below wo.heap.size wo w') => (hw'.cell (p := ⟨w.heap.size, 0, none⟩) hwlo).trans z0
      have r1 := fun w' (hw' : Below wo.heap.size wo w') => (hw'.cell (p := ⟨w.heap.size, 1, none⟩) hwlo).trans z1
      have r4 := fun w' (hw' : Below wo.heap.size wo w') => (hw'.cell (p := a.add (i * 2)) hab2).trans k0
      have r5 := fun w' (hw' : Below wo.heap.size wo w') => (hw'.cell (p := ⟨(a.add (i * 2)).block, (a.add (i * 2)).off + 1, none⟩) hab2).trans k1
      have hiI : (i : Int) < (h.labs.length : Int) := by omega
      have hi0 : (0 : Int) ≤ (i : Int) := by omega
      have HC : Hid (∀ w', Below wo.heap.size wo w' → Calls Try.prog 26 #[sdVal sd B' c1' C' c2', .int .i64 (K : Int), .int .i64 (K : Int)] w' fun e w'' => e = .returned (.bool true) ∧ Below w'.heap.size w' w'') :=
        Lib.hid fun w' hw' => side_yes (HSD.out.on hw') hside (by omega) hK2 hK2
      have hb0 : Below wo.heap.size wo wo := Below.refl _ _
      clear hsd k0 k1 hab z0 z1 z2 z3 hside
      go_upto_region 6 with fail
      go_region_held3 (fun w' => Below wo.heap.size wo w')
        (repeat (first | assumption | with_reducible refine Below.drew ?_ | with_reducible refine bt (a := wo) ?_ br))
        (first | (go_at_call 26; refine (HC.out _ (by assumption)).mono ?_; rintro e WA ⟨rfl, br⟩))
      all_goals
        rename_i hH
        have HBX := Lib.hid (HBR.out.trans (hH.mono HBR.out.size))
        clear hH r0 r1 r4 r5 HC
        go_wp2
        go_roundw
        case rel => exact ⟨i + 1, by go_num, by omega, HBX.out⟩
        case measure => simp [intOf]; omega
    · obtain rfl : i = h.labs.length := by omega
      have hiI : ¬ (h.labs.length : Int) < (h.labs.length : Int) := by omega
      have hroot := hO.root
      rw [HKT.out] at hroot
      have HC := Lib.hid (side_yes HVo.out.root hroot (by have := hO.fewR; omega) hK2 (by decide))
      have HBX := Lib.hid (HB.out.trans (HBR.out.mono HB.out.size))
      clear hroot hO
      go_wp2_with fail
      refine HC.out.mono ?_
      rintro e W5 ⟨rfl, b5⟩
      have HB5 := Lib.hid (HBX.out.trans (b5.mono HBX.out.size))
      clear b5
      go_wp2
      go_ret
      exact ⟨rfl, HB5.out⟩
end Go.Proofs.Ytfiojodpcpkiaaa
