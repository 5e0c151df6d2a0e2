/- The package token: characters, comment, ending. The package token: comment, ending. The package token: attribute. -/
import Derived.Laws.ResultCell
import Derived.Lib.IndexLaws
import Derived.Lib.IndexMore
import Derived.Test.YtnkelhmjkmeilaaGreatDoorT04
import Derived.Test.YtnkelhmjkmeilaaGreatDoorT09
section
namespace Go.Proofs.YtnkelhmjkmeilaaGreatDoor
open Go.RowKit
theorem charL_skip : ∀ (i : Nat) (l : List UInt8), i ≤ l.length → (∀ k, k < i → startsL (l.drop k) = false) → charL l = i + charL (l.drop i)
  | 0, l, _, _ => by simp
  | i + 1, [], h, _ => by simp at h
  | i + 1, c :: t, h, hn => by
    have h0 : startsL (c :: t) = false := hn 0 (by omega)
    have ih := charL_skip i t (by simpa using h) (fun k hk => by simpa using hn (k + 1) (by omega))
    rw [charL, h0, List.drop_succ_cons, ih]
    simp
    omega
theorem startsL_head {l : List UInt8} (h : startsL l = true) : l[0]? = some 60 := by
  match l with
  | [] => simp [startsL] at h
  | [c] => simp [startsL] at h
  | a :: c :: t =>
    simp only [startsL, Bool.and_eq_true, beq_iff_eq] at h
    simp only [List.getElem?_cons_zero, Option.some.injEq]
    exact UInt8.toNat_inj.1 (by rw [h.1]; rfl)
theorem charL_none {l : List UInt8} (h : Lib.indexByte l 60 < 0) : charL l = l.length := by
  have h1 := Lib.indexByte_ge l 60
  have h2 := Lib.indexByte_none (show Lib.indexByte l 60 = -1 by omega)
  rw [charL_skip l.length l (Nat.le_refl _) (fun k _ => ?_)]
  · simp [charL]
  · rw [← Bool.not_eq_true]
    intro hs
    have := startsL_head hs
    rw [List.getElem?_drop, Nat.add_zero] at this
    exact h2 k this
theorem charL_some {l : List UInt8} {j : Nat} (h : Lib.indexByte l 60 = j) : j < l.length ∧ charL l = j + charL (l.drop j) := by
  obtain ⟨h1, h2⟩ := Lib.indexByte_some h
  have hj : j < l.length := (List.getElem?_eq_some_iff.1 h1).1
  refine ⟨hj, charL_skip j l (by omega) (fun k hk => ?_)⟩
  rw [← Bool.not_eq_true]
  intro hs
  have := startsL_head hs
  rw [List.getElem?_drop, Nat.add_zero] at this
  exact h2 k hk this
theorem charL_stop {l : List UInt8} (h : startsL l = true) : charL l = 0 := by
  cases l with
  | nil => rfl
  | cons c t => rw [charL, h]; rfl
theorem charL_go {l : List UInt8} (h : startsL l = false) (hl : l ≠ []) : charL l = 1 + charL (l.drop 1) := by
  cases l with
  | nil => exact absurd rfl hl
  | cons c t => rw [charL, h]; simp
theorem IB60_any {s : ByteArray} {l : List UInt8} (hs : IsStr s l) (w : World) : Calls Tryz.prog 53 #[.string s, .int .u8 60] w fun e w' => e = .returned (.int .i64 (Lib.indexByte l 60)) ∧ w' = w := by
  have h := Tryz.strings_IndexByte s 60 w
  rw [hs.out] at h
  exact h
theorem IB62_any {s : ByteArray} {l : List UInt8} (hs : IsStr s l) (w : World) : Calls Tryz.prog 53 #[.string s, .int .u8 62] w fun e w' => e = .returned (.int .i64 (Lib.indexByte l 62)) ∧ w' = w := by
  have h := Tryz.strings_IndexByte s 62 w
  rw [hs.out] at h
  exact h
set_option maxHeartbeats 1000000 in
set_option maxRecDepth 100000 in
theorem characters_any {s : ByteArray} {l : List UInt8} (hs : IsStr s l) (hl : l.length ≤ 1000000) (w : World) :
    Calls Tryz.prog 316 #[.string s] w fun e w' => e = .returned (.int .i64 (charL l)) ∧ w' = w := by
  have hss := hs.size
  have hsb : s.size ≤ 1000000 := by omega
  have HS := Lib.hid hs
  have HSS := Lib.hid hss
  clear hs hss
  go_enter Tryz.func316, Tryz.ntmps316
  go_wp2
  go_loop [3] (fun i => ∃ k : Nat, i = .int .i64 k ∧ k ≤ s.size ∧ charL l = k + charL (l.drop k)) (fun i => s.size - (intOf i).toNat)
  case atStart => exact ⟨0, rfl, Nat.zero_le _, by simp⟩
  case round =>
    obtain ⟨k, rfl, hk, hch⟩ := hrel
    have HCH := Lib.hid hch
    clear hch
    by_cases hlt : k < s.size
    · have hp := s_drop HS.out k
      have hpz := hp.size
      have hpl : (l.drop k).length = s.size - k := by rw [List.length_drop, HSS.out]
      generalize hpe : s.extract k s.size = p at *
      go_wp2_with fail
      refine (IB60_any hp _).mono ?_
      rintro e W1 ⟨rfl, rfl⟩
      by_cases hj : Lib.indexByte (l.drop k) 60 < 0
      · have HE := Lib.hid (show charL l = s.size by rw [HCH.out, charL_none hj, hpl]; omega)
        go_wp2
        go_ret
        exact ⟨ret_int (by rw [HE.out]), rfl⟩
      · obtain ⟨j, hje⟩ : ∃ j : Nat, Lib.indexByte (l.drop k) 60 = j := ⟨_, (Int.toNat_of_nonneg (by omega)).symm⟩
        obtain ⟨hjl, hjc⟩ := charL_some hje
        rw [hje]
        have HJC := Lib.hid hjc
        clear hje hj hjc hpl hpz hp hpe
        have hq := s_drop HS.out (k + j)
        have hkj : k + j < s.size := by rw [List.length_drop] at hjl; have := HSS.out; omega
        have hql : (l.drop (k + j)).length ≤ 1000000 := by rw [List.length_drop]; omega
        have HDR := Lib.hid (show l.drop (k + j) = (l.drop k).drop j by rw [List.drop_drop])
        have hjl2 : j ≤ 1000000 := by omega
        generalize hqe : s.extract (k + j) s.size = q at *
        go_wp2_with fail
        refine (Starts_any hq hql _).mono ?_
        rintro e W1 ⟨rfl, rfl⟩
        cases hst : startsL (l.drop (k + j)) with
        | true =>
          have HE := Lib.hid (show charL l = k + j by rw [HCH.out, HJC.out, ← HDR.out, charL_stop hst]; omega)
          clear hst
          go_wp2
          go_ret
          exact ⟨ret_int (by rw [HE.out]; simp), rfl⟩
        | false =>
          have HE := Lib.hid (show charL l = (k + j + 1) + charL (l.drop (k + j + 1)) by
            have hne : l.drop (k + j) ≠ [] := by
              intro e
              have := congrArg List.length e
              simp only [List.length_drop, List.length_nil] at this
              have := HSS.out
              omega
            rw [HCH.out, HJC.out, ← HDR.out, charL_go hst hne, List.drop_drop]; omega)
          clear hst
          go_wp2
          go_round
          case rel => exact ⟨k + j + 1, by go_num, by omega, HE.out⟩
          case measure => simp [intOf]; omega
    · have HE := Lib.hid (show charL l = s.size by rw [HCH.out, List.drop_of_length_le (by have := HSS.out; omega)]; simp [charL]; omega)
      go_wp2
      go_ret
      exact ⟨ret_int (by rw [HE.out]), rfl⟩
end Go.Proofs.YtnkelhmjkmeilaaGreatDoor
namespace Go.Proofs.YtnkelhmjkmeilaaGreatDoor
open Go.RowKit
def M0 (w : World) : Prop := ∃ m, w.cell? ⟨1, 0, none⟩ = some (.int .i64 m)
theorem M0.below {w w' : World} (h : M0 w) (hb : Below w.heap.size w w') : M0 w' := by
  obtain ⟨m, hm⟩ := h
  exact ⟨m, (hb.cell (World.block_lt_of_cell? w _ hm)).trans hm⟩
theorem ret_tok {f : Func} {p u : Tmp} (h : f.results = #[.cell p 443, .tmp u]) {a : Act} {w : World} {g : Nat} {v0 v1 v2 v3 x : Value} {R : Ending → World → Prop} (hp : a.tmps.getD p undef = .pointer (some ⟨g, 0, none⟩)) (hx : a.tmps.getD u undef = x) (hd : a.defers = [])
    (hg : w.heap[g]? = some (.cells #[v0, v1, v2, v3] 443 (0, 0))) (hR : R (.returned (.tuple #[.agg #[v0, v1, v2, v3], x])) w) : bodyPost Tryz.prog f R .ret a w := by
  have hc := fun j => Lib.cell_of_heap hg j
  have c0 := hc 0
  have c1 := hc 1
  have c2 := hc 2
  have c3 := hc 3
  simp only [List.getElem?_toArray, List.getElem?_cons_zero, List.getElem?_cons_succ] at c0 c1 c2 c3
  refine bodyPost_ret (v := .tuple #[.agg #[v0, v1, v2, v3], x]) ?_ hd hR
  rw [results_cell_tmp h, hp, hx]
  go_simp
theorem tok_stored {w : World} {g : Nat} {a b c d : Value} {T : TypeId} (h : w.heap[g]? = some (.cells #[a, b, c, d] T (0, 0))) (v0 v1 v2 v3 : Value) :
    ((((w.setCell ⟨g, 0, none⟩ v0).setCell ⟨g, 1, none⟩ v1).setCell ⟨g, 2, none⟩ v2).setCell ⟨g, 3, none⟩ v3).heap[g]? = some (.cells #[v0, v1, v2, v3] T (0, 0)) := by
  have h0 := heap_setCell_same w g 0 _ _ v0 h
  have h1 := heap_setCell_same _ g 1 _ _ v1 h0
  have h2 := heap_setCell_same _ g 2 _ _ v2 h1
  have h3 := heap_setCell_same _ g 3 _ _ v3 h2
  rw [h3]
  simp
theorem tok_below {w w0 : World} {g B : Nat} (h : Below B w0 w) (hg : B ≤ g) (v0 v1 v2 v3 : Value) :
    Below B w0 ((((w.setCell ⟨g, 0, none⟩ v0).setCell ⟨g, 1, none⟩ v1).setCell ⟨g, 2, none⟩ v2).setCell ⟨g, 3, none⟩ v3) :=
  (((h.setCell (p := ⟨g, 0, none⟩) hg v0).setCell (p := ⟨g, 1, none⟩) hg v1).setCell (p := ⟨g, 2, none⟩) hg v2).setCell (p := ⟨g, 3, none⟩) hg v3
theorem titleL_le (l : List UInt8) : titleL l ≤ l.length := by
  cases l with
  | nil => simp [titleL]
  | cons c t =>
    simp only [titleL]
    split
    · exact spanL_le _ _
    · exact Nat.zero_le _
def tkv (t : Tk) (ats : Value) : Value := .agg #[.int .i64 t.kind, .string ⟨t.name.toArray⟩, ats, .string ⟨t.text.toArray⟩]
def nov : Value := .slice none 0 0
theorem Ixo_any {s : ByteArray} {l : List UInt8} (hs : IsStr s l) (w : World) : Calls Tryz.prog 324 #[.string s, .string ⟨#[62]⟩] w fun e w' => e = .returned (.int .i64 (Lib.index l [62])) ∧ w' = w := by
  have h := Tryz.strings_Index_one s 62 w
  rw [hs.out] at h
  rw [Lib.index_one]
  exact h
theorem Ix_any {s : ByteArray} {l sub : List UInt8} (hs : IsStr s l) (hl : l.length ≤ 1000000) {w : World} (hM : M0 w) : Calls Tryz.prog 324 #[.string s, .string ⟨sub.toArray⟩] w fun e w' => e = .returned (.int .i64 (Lib.index l sub)) ∧ w' = w := by
  obtain ⟨m, hm⟩ := hM
  have h := Tryz.strings_Index s ⟨sub.toArray⟩ m w (by rw [hs.size]; omega) hm
  rw [hs.out] at h
  exact h
theorem HP_any {s : ByteArray} {l sub : List UInt8} (hs : IsStr s l) (w : World) : Calls Tryz.prog 87 #[.string s, .string ⟨sub.toArray⟩] w fun e w' => e = .returned (.bool (Lib.hasPrefix l sub)) ∧ w' = w := by
  have h := Tryz.strings_HasPrefix s ⟨sub.toArray⟩ w
  rw [hs.out] at h
  exact h
theorem hasPrefix_len {l p : List UInt8} (h : Lib.hasPrefix l p = true) : p.length ≤ l.length := by
  have := List.isPrefixOf_iff_prefix.1 h
  exact this.length_le
set_option maxHeartbeats 1000000 in
set_option maxRecDepth 100000 in
theorem comment_any {s : ByteArray} {l : List UInt8} (hs : IsStr s l) (hl : l.length ≤ 1000000) (h2 : 2 ≤ l.length) {w : World} (hM : M0 w) :
    Calls Tryz.prog 321 #[.string s] w fun e w' => e = .returned (.tuple #[tkv (cmtL l).1 nov, .int .i64 (cmtL l).2]) ∧ Below w.heap.size w w' := by
  have hss := hs.size
  have hs2 : 2 ≤ s.size := by omega
  have hsb : s.size ≤ 1000000 := by omega
  have HS := Lib.hid hs
  have HSS := Lib.hid hss
  have HM := Lib.hid hM
  clear hs hss hM
  go_enter Tryz.func321, Tryz.ntmps321
  go_wp2_with fail
  refine (HP_any (sub := [60, 33, 45, 45]) HS.out _).mono ?_
  rintro e W1 ⟨rfl, rfl⟩
  cases hp : Lib.hasPrefix l [60, 33, 45, 45] with
  | true =>
    have h4 : 4 ≤ s.size := by rw [HSS.out]; exact hasPrefix_len hp
    have HC := Lib.hid (show cmtL l = if Lib.index (l.drop 4) [45, 45, 62] < 0 then (⟨4, [], [], l.drop 4⟩, l.length)
     else (⟨4, [], [], (l.drop 4).take (Lib.index (l.drop 4) [45, 45, 62]).toNat⟩, 4 + (Lib.index (l.drop 4) [45, 45, 62]).toNat + 3) by rw [cmtL, hp]; rfl)
    have hq := s_drop HS.out 4
    have hql : (l.drop 4).length ≤ 1000000 := by rw [List.length_drop]; omega
    have hrm := Lib.index_room (l.drop 4) [45, 45, 62]
    generalize hqe : s.extract 4 s.size = q at *
    clear hp
    go_wp2_with fail
    refine (Ix_any (sub := [45, 45, 62]) hq hql (HM.out.below ((Below.refl _ _).alloc (Nat.le_refl _) _))).mono ?_
    rintro e W2 ⟨rfl, rfl⟩
    have hsl : s.size - 4 = (l.drop 4).length := by rw [List.length_drop, HSS.out]
    by_cases hj : Lib.index (l.drop 4) [45, 45, 62] < 0
    · have HR := Lib.hid (show cmtL l = (⟨4, [], [], l.drop 4⟩, l.length) by rw [HC.out, if_pos hj])
      generalize Lib.index (l.drop 4) [45, 45, 62] = j at *
      have HV := Lib.hid (show tkv (cmtL l).1 nov = .agg #[.int .i64 4, .string ⟨#[]⟩, .slice none 0 0, .string q] by rw [HR.out, hq.to]; rfl)
      have HN := Lib.hid (show ((cmtL l).2 : Int) = s.size by rw [HR.out, HSS.out])
      go_wp2
      exact ret_tok rfl rfl rfl rfl (heap_alloc_new _ _) ⟨by rw [HV.out, HN.out]; rfl, (Below.refl _ _).alloc (Nat.le_refl _) _⟩
    · obtain ⟨j, hje⟩ : ∃ j : Nat, Lib.index (l.drop 4) [45, 45, 62] = j := ⟨_, (Int.toNat_of_nonneg (by omega)).symm⟩
      have HR := Lib.hid (show cmtL l = (⟨4, [], [], (l.drop 4).take j⟩, 4 + j + 3) by rw [HC.out, if_neg hj, hje]; rfl)
      rw [hje] at hrm hj ⊢
      have hjr : 4 + j + 3 ≤ s.size := by
        have := hrm (by omega)
        simp only [List.length_cons, List.length_nil] at this
        omega
      clear hje hj hrm
      have hx := s_part HS.out 4 (4 + j)
      rw [show 4 + j - 4 = j by omega] at hx
      generalize hxe : s.extract 4 (4 + j) = x at *
      have HV := Lib.hid (show tkv (cmtL l).1 nov = .agg #[.int .i64 4, .string ⟨#[]⟩, .slice none 0 0, .string x] by rw [HR.out, hx.to]; rfl)
      have HN := Lib.hid (show ((cmtL l).2 : Int) = 4 + j + 3 by rw [HR.out]; simp)
      go_wp2
      exact ret_tok rfl rfl rfl rfl (heap_alloc_new _ _) ⟨by rw [HV.out, HN.out]; rfl, (Below.refl _ _).alloc (Nat.le_refl _) _⟩
  | false =>
    have HC := Lib.hid (show cmtL l = if Lib.index (l.drop 2) [62] < 0 then (⟨4, [], [], l.drop 2⟩, l.length)
     else (⟨4, [], [], (l.drop 2).take (Lib.index (l.drop 2) [62]).toNat⟩, 2 + (Lib.index (l.drop 2) [62]).toNat + 1) by rw [cmtL, hp]; rfl)
    have hq := s_drop HS.out 2
    have hql : (l.drop 2).length ≤ 1000000 := by rw [List.length_drop]; omega
    have hrm := Lib.index_room (l.drop 2) [62]
    generalize hqe : s.extract 2 s.size = q at *
    clear hp
    go_wp2_with fail
    refine (Ixo_any hq _).mono ?_
    rintro e W2 ⟨rfl, rfl⟩
    have hsl : s.size - 2 = (l.drop 2).length := by rw [List.length_drop, HSS.out]
    by_cases hj : Lib.index (l.drop 2) [62] < 0
    · have HR := Lib.hid (show cmtL l = (⟨4, [], [], l.drop 2⟩, l.length) by rw [HC.out, if_pos hj])
      generalize Lib.index (l.drop 2) [62] = j at *
      have HV := Lib.hid (show tkv (cmtL l).1 nov = .agg #[.int .i64 4, .string ⟨#[]⟩, .slice none 0 0, .string q] by rw [HR.out, hq.to]; rfl)
      have HN := Lib.hid (show ((cmtL l).2 : Int) = s.size by rw [HR.out, HSS.out])
      go_wp2
      exact ret_tok rfl rfl rfl rfl (heap_alloc_new _ _) ⟨by rw [HV.out, HN.out]; rfl, (Below.refl _ _).alloc (Nat.le_refl _) _⟩
    · obtain ⟨j, hje⟩ : ∃ j : Nat, Lib.index (l.drop 2) [62] = j := ⟨_, (Int.toNat_of_nonneg (by omega)).symm⟩
      have HR := Lib.hid (show cmtL l = (⟨4, [], [], (l.drop 2).take j⟩, 2 + j + 1) by rw [HC.out, if_neg hj, hje]; rfl)
      rw [hje] at hrm hj ⊢
      have hjr : 2 + j + 1 ≤ s.size := by
        have := hrm (by omega)
        simp only [List.length_cons, List.length_nil] at this
        omega
      clear hje hj hrm
      have hx := s_part HS.out 2 (2 + j)
      rw [show 2 + j - 2 = j by omega] at hx
      generalize hxe : s.extract 2 (2 + j) = x at *
      have HV := Lib.hid (show tkv (cmtL l).1 nov = .agg #[.int .i64 4, .string ⟨#[]⟩, .slice none 0 0, .string x] by rw [HR.out, hx.to]; rfl)
      have HN := Lib.hid (show ((cmtL l).2 : Int) = 2 + j + 1 by rw [HR.out]; simp)
      go_wp2
      exact ret_tok rfl rfl rfl rfl (heap_alloc_new _ _) ⟨by rw [HV.out, HN.out]; rfl, (Below.refl _ _).alloc (Nat.le_refl _) _⟩
set_option maxHeartbeats 1000000 in
set_option maxRecDepth 100000 in
theorem ending_any {s : ByteArray} {l : List UInt8} (hs : IsStr s l) (hl : l.length ≤ 1000000) (h2 : 2 ≤ l.length) {w : World} (hM : M0 w) :
    Calls Tryz.prog 320 #[.string s] w fun e w' => e = .returned (.tuple #[tkv (endL l).1 nov, .int .i64 (endL l).2]) ∧ Below w.heap.size w w' := by
  have hss := hs.size
  have hs2 : 2 ≤ s.size := by omega
  have hsb : s.size ≤ 1000000 := by omega
  have HS := Lib.hid hs
  have HSS := Lib.hid hss
  have HM := Lib.hid hM
  clear hs hss hM
  have hq := s_drop HS.out 2
  have hql : (l.drop 2).length ≤ 1000000 := by rw [List.length_drop]; omega
  have hsl : s.size - 2 = (l.drop 2).length := by rw [List.length_drop, HSS.out]
  have htl : titleL (l.drop 2) ≤ (l.drop 2).length := by
    exact titleL_le _
  generalize hqe : s.extract 2 s.size = q at *
  go_enter Tryz.func320, Tryz.ntmps320
  go_wp2_with fail
  refine (title_any hq hql).mono ?_
  rintro e W1 ⟨rfl, b1⟩
  rw [World.size_alloc] at b1
  have h1 := (b1.block w.heap.size (by omega)).trans (heap_alloc_new w _)
  have B1 : Below w.heap.size w W1 := ((Below.refl w.heap.size w).alloc (Nat.le_refl _) _).trans (b1.mono (by omega))
  have hM1 := HM.out.below B1
  have cH := fun j => Lib.cell_of_heap h1 j
  have c0 := cH 0
  have c1 := cH 1
  have c2 := cH 2
  have c3 := cH 3
  have f0 := Lib.frozen_of_heap h1 0
  have f1 := Lib.frozen_of_heap h1 1
  have f2 := Lib.frozen_of_heap h1 2
  have f3 := Lib.frozen_of_heap h1 3
  simp only [List.getElem?_toArray, List.getElem?_cons_zero, List.getElem?_cons_succ] at c0 c1 c2 c3
  clear b1 hq hqe cH
  by_cases ht : titleL (l.drop 2) = 0
  · have HC := Lib.hid (show endL l = if Lib.hasPrefix l [60, 47, 62] then (noTk, 3) else cmtL l by rw [endL, if_pos ht])
    rw [ht]
    clear ht htl
    go_wp2_with fail
    refine (HP_any (sub := [60, 47, 62]) HS.out _).mono ?_
    rintro e W2 ⟨rfl, rfl⟩
    cases hp : Lib.hasPrefix l [60, 47, 62] with
    | true =>
      have HR := Lib.hid (show endL l = (noTk, 3) by rw [HC.out, hp]; rfl)
      clear hp
      go_wp2
      exact ret_tok rfl rfl rfl rfl (tok_stored h1 _ _ _ _) ⟨by rw [HR.out]; rfl, tok_below B1 (Nat.le_refl _) _ _ _ _⟩
    | false =>
      have HR := Lib.hid (show endL l = cmtL l by rw [HC.out, hp]; rfl)
      clear hp
      go_wp2_with fail
      refine (comment_any HS.out hl h2 hM1).mono ?_
      rintro e W3 ⟨rfl, b3⟩
      have h3 := (b3.block w.heap.size (Array.getElem?_eq_some_iff.1 h1).1).trans h1
      have cH := fun j => Lib.cell_of_heap h3 j
      have c0 := cH 0
      have c1 := cH 1
      have c2 := cH 2
      have c3 := cH 3
      have f0 := Lib.frozen_of_heap h3 0
      have f1 := Lib.frozen_of_heap h3 1
      have f2 := Lib.frozen_of_heap h3 2
      have f3 := Lib.frozen_of_heap h3 3
      simp only [List.getElem?_toArray, List.getElem?_cons_zero, List.getElem?_cons_succ] at c0 c1 c2 c3
      have B3 := bt B1 b3
      clear cH
      unfold tkv nov
      go_wp2
      exact ret_tok rfl rfl rfl rfl (tok_stored h3 _ _ _ _) ⟨by rw [HR.out]; rfl, tok_below B3 (Nat.le_refl _) _ _ _ _⟩
  · have q0 : ((titleL (l.drop 2) : Int) == 0) = false := by rw [beq_eq_false_iff_ne]; omega
    have HC := Lib.hid (show endL l = if Lib.indexByte l 62 < 0 then (noTk, l.length)
      else (⟨2, lowL ((l.drop 2).take (titleL (l.drop 2))), [], []⟩, (Lib.indexByte l 62).toNat + 1) by rw [endL, if_neg ht])
    clear ht
    go_wp2_with fail
    refine (IB62_any HS.out _).mono ?_
    rintro e W2 ⟨rfl, rfl⟩
    by_cases hj : Lib.indexByte l 62 < 0
    · have HR := Lib.hid (show endL l = (noTk, l.length) by rw [HC.out, if_pos hj])
      have HN := Lib.hid (show ((endL l).2 : Int) = s.size by rw [HR.out, HSS.out])
      generalize Lib.indexByte l 62 = j at *
      go_wp2
      exact ret_tok rfl rfl rfl rfl (tok_stored h1 _ _ _ _) ⟨by rw [HN.out, HR.out]; rfl, tok_below B1 (Nat.le_refl _) _ _ _ _⟩
    · obtain ⟨j, hje⟩ : ∃ j : Nat, Lib.indexByte l 62 = j := ⟨_, (Int.toNat_of_nonneg (by omega)).symm⟩
      have hjl : j < l.length := (List.getElem?_eq_some_iff.1 (Lib.indexByte_some hje).1).1
      have HR := Lib.hid (show endL l = (⟨2, lowL ((l.drop 2).take (titleL (l.drop 2))), [], []⟩, j + 1) by rw [HC.out, if_neg hj, hje]; rfl)
      rw [hje]
      clear hje hj
      generalize titleL (l.drop 2) = n at *
      have hx := s_part HS.out 2 (2 + n)
      rw [show 2 + n - 2 = n by omega] at hx
      have hxl : ((l.drop 2).take n).length ≤ 1000000 := by rw [List.length_take]; omega
      have hjs : j < s.size := by rw [HSS.out]; exact hjl
      generalize hxe : s.extract 2 (2 + n) = x at *
      go_wp2_with fail
      refine (Fold_any hx hxl).mono ?_
      rintro e W3 ⟨y, rfl, hy, b3⟩
      have h3 := (b3.block w.heap.size (Array.getElem?_eq_some_iff.1 h1).1).trans h1
      have cH := fun j => Lib.cell_of_heap h3 j
      have c0 := cH 0
      have c1 := cH 1
      have c2 := cH 2
      have c3 := cH 3
      have f0 := Lib.frozen_of_heap h3 0
      have f1 := Lib.frozen_of_heap h3 1
      have f2 := Lib.frozen_of_heap h3 2
      have f3 := Lib.frozen_of_heap h3 3
      simp only [List.getElem?_toArray, List.getElem?_cons_zero, List.getElem?_cons_succ] at c0 c1 c2 c3
      have B3 := bt B1 b3
      have HV := Lib.hid (show tkv (endL l).1 nov = .agg #[.int .i64 2, .string y, .slice none 0 0, .string ⟨#[]⟩] by rw [HR.out, hy.to]; rfl)
      have HN := Lib.hid (show ((endL l).2 : Int) = j + 1 by rw [HR.out]; simp)
      clear cH
      go_wp2
      exact ret_tok rfl rfl rfl rfl (tok_stored h3 _ _ _ _) ⟨by rw [HV.out, HN.out]; rfl, tok_below B3 (Nat.le_refl _) _ _ _ _⟩
end Go.Proofs.YtnkelhmjkmeilaaGreatDoor
namespace Go.Proofs.YtnkelhmjkmeilaaGreatDoor
open Go.RowKit
theorem atL_1 {l : List UInt8} {i j : Nat} (hi : i = spanL anB l) (hj : j = i + spanL blk (l.drop i)) (h : l.length ≤ j) : atL l = ((lowL (l.take i), []), j) := by
  subst hi; subst hj
  unfold atL
  simp only []
  rw [List.drop_of_length_le h]
theorem atL_2 {l : List UInt8} {i j : Nat} (hi : i = spanL anB l) (hj : j = i + spanL blk (l.drop i)) (h : j < l.length) (hc : l[j].toNat ≠ 61) : atL l = ((lowL (l.take i), []), j) := by
  subst hi; subst hj
  unfold atL
  simp only []
  rw [List.drop_eq_getElem_cons h]
  simp only [ne_eq, hc, not_false_eq_true, if_true]
theorem atL_3 {l : List UInt8} {i j k : Nat} (hi : i = spanL anB l) (hj : j = i + spanL blk (l.drop i)) (hk : k = j + 1 + spanL blk (l.drop (j + 1))) (h : j < l.length) (hc : l[j].toNat = 61) (h2 : l.length ≤ k) : atL l = ((lowL (l.take i), []), k) := by
  subst hi; subst hj; subst hk
  unfold atL
  simp only []
  rw [List.drop_eq_getElem_cons h]
  simp only [ne_eq, hc, not_true_eq_false, if_false]
  rw [List.drop_of_length_le h2]
theorem atL_4 {l : List UInt8} {i j k m : Nat} {q : UInt8} (hi : i = spanL anB l) (hj : j = i + spanL blk (l.drop i)) (hk : k = j + 1 + spanL blk (l.drop (j + 1))) (h : j < l.length) (hc : l[j].toNat = 61) (h2 : k < l.length)
    (hq : l[k] = q) (hqq : q.toNat = 34 ∨ q.toNat = 39) (hm : m = spanL (noq q) (l.drop (k + 1))) :
    atL l = if k + 1 + m = l.length then ((lowL (l.take i), []), l.length) else ((lowL (l.take i), dec ((l.drop (k + 1)).take m)), k + 1 + m + 1) := by
  subst hi; subst hj; subst hk; subst hm; subst hq
  unfold atL
  simp only []
  rw [List.drop_eq_getElem_cons h]
  simp only [ne_eq, hc, not_true_eq_false, if_false]
  rw [List.drop_eq_getElem_cons h2]
  simp only [hqq, if_true]
  rfl
theorem atL_5 {l : List UInt8} {i j k m : Nat} {q : UInt8} (hi : i = spanL anB l) (hj : j = i + spanL blk (l.drop i)) (hk : k = j + 1 + spanL blk (l.drop (j + 1))) (h : j < l.length) (hc : l[j].toNat = 61) (h2 : k < l.length)
    (hq : l[k] = q) (hqq : ¬ (q.toNat = 34 ∨ q.toNat = 39)) (hm : m = spanL avB (l.drop k)) :
    atL l = ((lowL (l.take i), dec ((l.drop k).take m)), k + m) := by
  subst hi; subst hj; subst hk; subst hm; subst hq
  unfold atL
  simp only []
  rw [List.drop_eq_getElem_cons h]
  simp only [ne_eq, hc, not_true_eq_false, if_false]
  rw [List.drop_eq_getElem_cons h2]
  simp only [hqq, if_false]
structure AtSt (w W : World) (g : Nat) (nm : ByteArray) : Prop where
  out : W.heap[w.heap.size]? = some (.cells #[.string ⟨#[]⟩, .string ⟨#[]⟩] 78 (0, 0))
  own : W.heap[g]? = some (.cells #[.string nm, .string ⟨#[]⟩] 78 (0, 0))
  far : w.heap.size < g
  bel : Below w.heap.size w W
theorem AtSt.step {w W W' : World} {g : Nat} {nm : ByteArray} (h : AtSt w W g nm) (b : Below W.heap.size W W') : AtSt w W' g nm where
  out := (b.block _ (Array.getElem?_eq_some_iff.1 h.out).1).trans h.out
  own := (b.block _ (Array.getElem?_eq_some_iff.1 h.own).1).trans h.own
  far := h.far
  bel := bt h.bel b
theorem AtSt.cells {w W : World} {g : Nat} {nm : ByteArray} (h : AtSt w W g nm) : (W.cell? ⟨w.heap.size, 0, none⟩ = some (.string ⟨#[]⟩) ∧ W.cell? ⟨w.heap.size, 1, none⟩ = some (.string ⟨#[]⟩) ∧ W.frozen? ⟨w.heap.size, 0, none⟩ = false ∧ W.frozen? ⟨w.heap.size, 1, none⟩ = false) ∧
    (W.cell? ⟨g, 0, none⟩ = some (.string nm) ∧ W.cell? ⟨g, 1, none⟩ = some (.string ⟨#[]⟩) ∧ W.frozen? ⟨g, 1, none⟩ = false) ∧ w.heap.size ≠ g := by
  have hc := fun j => Lib.cell_of_heap h.out j
  have hd := fun j => Lib.cell_of_heap h.own j
  have c0 := hc 0
  have c1 := hc 1
  have d0 := hd 0
  have d1 := hd 1
  simp only [List.getElem?_toArray, List.getElem?_cons_zero, List.getElem?_cons_succ] at c0 c1 d0 d1
  have := h.far
  exact ⟨⟨c0, c1, Lib.frozen_of_heap h.out 0, Lib.frozen_of_heap h.out 1⟩, ⟨d0, d1, Lib.frozen_of_heap h.own 1⟩, by omega⟩
theorem atr_stored {w : World} {g : Nat} {a b : Value} {T : TypeId} (h : w.heap[g]? = some (.cells #[a, b] T (0, 0))) (v0 v1 : Value) :
    ((w.setCell ⟨g, 0, none⟩ v0).setCell ⟨g, 1, none⟩ v1).heap[g]? = some (.cells #[v0, v1] T (0, 0)) := by
  have h0 := heap_setCell_same w g 0 _ _ v0 h
  have h1 := heap_setCell_same _ g 1 _ _ v1 h0
  rw [h1]
  simp
theorem atr_below {w w0 : World} {g B : Nat} (h : Below B w0 w) (hg : B ≤ g) (v0 v1 : Value) : Below B w0 ((w.setCell ⟨g, 0, none⟩ v0).setCell ⟨g, 1, none⟩ v1) :=
  (h.setCell (p := ⟨g, 0, none⟩) hg v0).setCell (p := ⟨g, 1, none⟩) hg v1
theorem ret_atr {f : Func} {p u : Tmp} (h : f.results = #[.cell p 78, .tmp u]) {a : Act} {w : World} {g : Nat} {v0 v1 x : Value} {R : Ending → World → Prop} (hp : a.tmps.getD p undef = .pointer (some ⟨g, 0, none⟩)) (hx : a.tmps.getD u undef = x) (hd : a.defers = [])
    (hg : w.heap[g]? = some (.cells #[v0, v1] 78 (0, 0))) (hR : R (.returned (.tuple #[.agg #[v0, v1], x])) w) : bodyPost Tryz.prog f R .ret a w := by
  have hc := fun j => Lib.cell_of_heap hg j
  have c0 := hc 0
  have c1 := hc 1
  simp only [List.getElem?_toArray, List.getElem?_cons_zero, List.getElem?_cons_succ] at c0 c1
  refine bodyPost_ret (v := .tuple #[.agg #[v0, v1], x]) ?_ hd hR
  rw [results_cell_tmp h, hp, hx]
  go_simp
def atv (a : Atr) : Value := .agg #[.string ⟨a.1.toArray⟩, .string ⟨a.2.toArray⟩]
set_option maxHeartbeats 4000000 in
set_option maxRecDepth 100000 in
theorem attribute_tok {w : World} {s : ByteArray} {l : List UInt8} (hs : IsStr s l) (hl : l.length ≤ 1000000) :
    Calls Tryz.prog 332 #[.string s] w fun e w' => e = .returned (.tuple #[atv (atL l).1, .int .i64 (atL l).2]) ∧ Below w.heap.size w w' := by
  have hss := hs.size
  have hsb : s.size ≤ 1000000 := by omega
  have HS := Lib.hid hs
  have HSS := Lib.hid hss
  clear hs hss
  obtain ⟨i, hi⟩ : ∃ i, i = spanL anB l := ⟨_, rfl⟩
  have hil : i ≤ s.size := by rw [HSS.out, hi]; exact spanL_le _ _
  go_enter Tryz.func332, Tryz.ntmps332
  go_wp2_with fail
  refine (span_any takenAn HS.out hl (fun _ _ => trivial)).mono ?_
  rintro e W1 ⟨rfl, b1⟩
  rw [World.size_alloc] at b1
  rw [← hi]
  have h1 := (b1.block w.heap.size (by omega)).trans (heap_alloc_new w _)
  have B1 : Below w.heap.size w W1 := ((Below.refl w.heap.size w).alloc (Nat.le_refl _) _).trans (b1.mono (by omega))
  have s1 := b1.size
  rw [World.size_alloc] at s1
  clear b1
  have HI := Lib.hid hi
  clear hi
  have hx := s_take HS.out i
  have hxl : (l.take i).length ≤ 1000000 := by rw [List.length_take]; omega
  generalize hxe : s.extract 0 i = x at *
  go_wp2_with fail
  refine (Fold_any hx hxl).mono ?_
  rintro e W2 ⟨y, rfl, hy, b2⟩
  have st2 : AtSt w (W2.alloc (.cells #[.string y, .string ⟨#[]⟩] 78)) W2.heap.size y :=
    ⟨(Below.heap_alloc _ _ _ (by have := b2.size; omega)).trans ((b2.block _ (by omega)).trans h1), heap_alloc_new _ _, by have := b2.size; omega, (bt B1 b2).alloc (by have := (bt B1 b2).size; omega) _⟩
  have HY := Lib.hid hy
  clear hx hxl hxe b2 h1 B1 s1 hy
  have hd := s_drop HS.out i
  have hdl : (l.drop i).length ≤ 1000000 := by rw [List.length_drop]; omega
  obtain ⟨j, hj⟩ : ∃ j, j = i + spanL blk (l.drop i) := ⟨_, rfl⟩
  have hjl : j ≤ s.size := by
    have := spanL_le blk (l.drop i)
    rw [List.length_drop] at this
    have := HSS.out
    omega
  generalize hde : s.extract i s.size = d at *
  go_wp2_with fail
  refine (span_any takenBlank hd hdl (fun _ _ => trivial)).mono ?_
  rintro e W3 ⟨rfl, b3⟩
  have st3 := st2.step b3
  have hji : (i : Int) + (spanL blk (l.drop i) : Nat) = (j : Nat) := by omega
  have HJ := Lib.hid hj
  clear st2 b3 hd hdl hde hj
  generalize W2.heap.size = gA at *
  obtain ⟨⟨r0, r1, rf0, rf1⟩, ⟨c0, c1, f1⟩, hne⟩ := st3.cells
  by_cases hjs : j < s.size
  · have hjl2 : j < l.length := by rw [← HSS.out]; exact hjs
    have e1 := s_byte HS.out j hjs hjl2
    by_cases hc : l[j].toNat = 61
    · have q1 : (((s[j]).toNat : Int) != 61) = false := by rw [e1, hc]; rfl
      have HC := Lib.hid hc
      obtain ⟨k, hk⟩ : ∃ k, k = j + 1 + spanL blk (l.drop (j + 1)) := ⟨_, rfl⟩
      have hks : k ≤ s.size := by
        have := spanL_le blk (l.drop (j + 1))
        rw [List.length_drop] at this
        have := HSS.out
        omega
      have hd := s_drop HS.out (j + 1)
      have hdl : (l.drop (j + 1)).length ≤ 1000000 := by rw [List.length_drop]; omega
      have hjk : (j : Int) + 1 + (spanL blk (l.drop (j + 1)) : Nat) = (k : Nat) := by omega
      have HK := Lib.hid hk
      generalize hde : s.extract (j + 1) s.size = d2 at *
      generalize hcc : s[j] = c at *
      clear e1 hc hk
      go_wp2_with fail
      refine (span_any takenBlank hd hdl (fun _ _ => trivial)).mono ?_
      rintro e W4 ⟨rfl, b4⟩
      have st4 := st3.step b4
      obtain ⟨⟨r0, r1, rf0, rf1⟩, ⟨c0, c1, f1⟩, hne⟩ := st4.cells
      clear b4 st3 hd hdl hde q1 hcc hji
      by_cases hkl : k < s.size
      · have hkl2 : k < l.length := by rw [← HSS.out]; exact hkl
        have e2 := s_byte HS.out k hkl hkl2
        obtain ⟨q, hq⟩ : ∃ q, q = l[k] := ⟨_, rfl⟩
        rw [← hq] at e2
        have hw : RowKit.wrap32 (q.toNat : Int) = q.toNat := IntWalk.wrap32_in _ (by have := q.toNat_lt; omega)
        have HQ := Lib.hid hq.symm
        clear hq
        generalize hcc : s[k] = c at *
        subst e2
        by_cases hqq : c.toNat = 34 ∨ c.toNat = 39
        · have hq128 : c.toNat < 128 := by omega
          obtain ⟨m, hm⟩ : ∃ m, m = spanL (noq c) (l.drop (k + 1)) := ⟨_, rfl⟩
          have hms : k + 1 + m ≤ s.size := by
            have := spanL_le (noq c) (l.drop (k + 1))
            rw [List.length_drop] at this
            have := HSS.out
            omega
          have hd := s_drop HS.out (k + 1)
          have hdl : (l.drop (k + 1)).length ≤ 1000000 := by rw [List.length_drop]; omega
          have HR := Lib.hid (atL_4 HI.out HJ.out HK.out hjl2 HC.out hkl2 HQ.out hqq hm)
          have HM := Lib.hid hm
          generalize hde : s.extract (k + 1) s.size = d3 at *
          have hq3 := hqq
          rcases hq3 with hq3 | hq3
          · have hv : (c.toNat : Int) = 34 := by omega
            have b5 := (Below.refl W4.heap.size W4).alloc (Nat.le_refl _) (.cells #[.int .i32 34] 21)
            have st5 := st4.step b5
            have h5 := heap_alloc_new W4 (.cells #[.int .i32 34] 21)
            have HTQ := takenQ W4.heap.size c hq128
            rw [hv] at HTQ
            have hI : ∀ w', Below (W4.alloc (.cells #[.int .i32 34] 21)).heap.size (W4.alloc (.cells #[.int .i32 34] 21)) w' → w'.cell? ⟨W4.heap.size, 0, none⟩ = some (.int .i32 34) := fun w' hb =>
              (hb.cell (p := ⟨W4.heap.size, 0, none⟩) (by simp)).trans (by rw [Lib.cell_of_heap h5 0]; rfl)
            clear hm hqq st4 b5 h5 hw
            have HTQ := Lib.hid HTQ
            go_wp2_with fail
            refine (span_any HTQ.out hd hdl hI).mono ?_
            rintro e W6 ⟨rfl, b6⟩
            have st6 := st5.step b6
            obtain ⟨⟨r0, r1, rf0, rf1⟩, ⟨c0, c1, f1⟩, hne⟩ := st6.cells
            have hkm : (k : Int) + 1 + (spanL (noq c) (l.drop (k + 1)) : Nat) = ((k + 1 + m : Nat) : Int) := by have := HM.out; omega
            have HKM := Lib.hid hkm
            clear hd hdl hde hI b6 st5 hkm
            rw [← HM.out]
            by_cases hend : k + 1 + m = s.size
            · have HR2 := Lib.hid (show atL l = ((lowL (l.take i), []), l.length) by rw [HR.out, if_pos (by have := HSS.out; omega)])
              have HV := Lib.hid (show atv (atL l).1 = .agg #[.string y, .string ⟨#[]⟩] by rw [HR2.out, HY.out.to]; rfl)
              have HN := Lib.hid (show ((atL l).2 : Int) = s.size by rw [HR2.out, HSS.out])
              have qe : ((k : Int) + 1 + (m : Int) == (s.size : Int)) = true := by rw [beq_iff_eq]; omega
              clear hend
              go_wp2
              exact ret_atr rfl rfl rfl rfl (atr_stored st6.out _ _) ⟨by rw [HV.out, HN.out]; rfl, atr_below st6.bel (Nat.le_refl _) _ _⟩
            · have HR2 := Lib.hid (show atL l = ((lowL (l.take i), dec ((l.drop (k + 1)).take m)), k + 1 + m + 1) by rw [HR.out, if_neg (by have := HSS.out; omega)])
              have qe : ((k : Int) + 1 + (m : Int) == (s.size : Int)) = false := by rw [beq_eq_false_iff_ne]; omega
              have hx := s_part HS.out (k + 1) (k + 1 + m)
              rw [show k + 1 + m - (k + 1) = m by omega] at hx
              have hxl : ((l.drop (k + 1)).take m).length ≤ 1000000 := by rw [List.length_take]; omega
              generalize hxe : s.extract (k + 1) (k + 1 + m) = x2 at *
              clear hend
              go_wp2_with fail
              refine (Decode_any hx hxl).mono ?_
              rintro e W7 ⟨z, rfl, hz, b7⟩
              have st7 := st6.step b7
              obtain ⟨⟨r0, r1, rf0, rf1⟩, ⟨c0, c1, f1⟩, hne⟩ := st7.cells
              have HV := Lib.hid (show atv (atL l).1 = .agg #[.string y, .string z] by rw [HR2.out, HY.out.to, hz.to]; rfl)
              have HN := Lib.hid (show ((atL l).2 : Int) = k + 1 + m + 1 by rw [HR2.out]; simp)
              go_wp2
              exact ret_atr rfl rfl rfl rfl (atr_stored ((Below.heap_setCell _ _ _ _ hne).trans st7.out) _ _) ⟨by rw [HV.out, HN.out]; rfl, atr_below (st7.bel.setCell (p := ⟨gA, 1, none⟩) (by have := st7.far; simp only []; omega) _) (Nat.le_refl _) _ _⟩
          · have hv : (c.toNat : Int) = 39 := by omega
            have b5 := (Below.refl W4.heap.size W4).alloc (Nat.le_refl _) (.cells #[.int .i32 39] 21)
            have st5 := st4.step b5
            have h5 := heap_alloc_new W4 (.cells #[.int .i32 39] 21)
            have HTQ := takenQ W4.heap.size c hq128
            rw [hv] at HTQ
            have hI : ∀ w', Below (W4.alloc (.cells #[.int .i32 39] 21)).heap.size (W4.alloc (.cells #[.int .i32 39] 21)) w' → w'.cell? ⟨W4.heap.size, 0, none⟩ = some (.int .i32 39) := fun w' hb =>
              (hb.cell (p := ⟨W4.heap.size, 0, none⟩) (by simp)).trans (by rw [Lib.cell_of_heap h5 0]; rfl)
            clear hm hqq st4 b5 h5 hw
            have HTQ := Lib.hid HTQ
            go_wp2_with fail
            refine (span_any HTQ.out hd hdl hI).mono ?_
            rintro e W6 ⟨rfl, b6⟩
            have st6 := st5.step b6
            obtain ⟨⟨r0, r1, rf0, rf1⟩, ⟨c0, c1, f1⟩, hne⟩ := st6.cells
            have hkm : (k : Int) + 1 + (spanL (noq c) (l.drop (k + 1)) : Nat) = ((k + 1 + m : Nat) : Int) := by have := HM.out; omega
            have HKM := Lib.hid hkm
            clear hd hdl hde hI b6 st5 hkm
            rw [← HM.out]
            by_cases hend : k + 1 + m = s.size
            · have HR2 := Lib.hid (show atL l = ((lowL (l.take i), []), l.length) by rw [HR.out, if_pos (by have := HSS.out; omega)])
              have HV := Lib.hid (show atv (atL l).1 = .agg #[.string y, .string ⟨#[]⟩] by rw [HR2.out, HY.out.to]; rfl)
              have HN := Lib.hid (show ((atL l).2 : Int) = s.size by rw [HR2.out, HSS.out])
              have qe : ((k : Int) + 1 + (m : Int) == (s.size : Int)) = true := by rw [beq_iff_eq]; omega
              clear hend
              go_wp2
              exact ret_atr rfl rfl rfl rfl (atr_stored st6.out _ _) ⟨by rw [HV.out, HN.out]; rfl, atr_below st6.bel (Nat.le_refl _) _ _⟩
            · have HR2 := Lib.hid (show atL l = ((lowL (l.take i), dec ((l.drop (k + 1)).take m)), k + 1 + m + 1) by rw [HR.out, if_neg (by have := HSS.out; omega)])
              have qe : ((k : Int) + 1 + (m : Int) == (s.size : Int)) = false := by rw [beq_eq_false_iff_ne]; omega
              have hx := s_part HS.out (k + 1) (k + 1 + m)
              rw [show k + 1 + m - (k + 1) = m by omega] at hx
              have hxl : ((l.drop (k + 1)).take m).length ≤ 1000000 := by rw [List.length_take]; omega
              generalize hxe : s.extract (k + 1) (k + 1 + m) = x2 at *
              clear hend
              go_wp2_with fail
              refine (Decode_any hx hxl).mono ?_
              rintro e W7 ⟨z, rfl, hz, b7⟩
              have st7 := st6.step b7
              obtain ⟨⟨r0, r1, rf0, rf1⟩, ⟨c0, c1, f1⟩, hne⟩ := st7.cells
              have HV := Lib.hid (show atv (atL l).1 = .agg #[.string y, .string z] by rw [HR2.out, HY.out.to, hz.to]; rfl)
              have HN := Lib.hid (show ((atL l).2 : Int) = k + 1 + m + 1 by rw [HR2.out]; simp)
              go_wp2
              exact ret_atr rfl rfl rfl rfl (atr_stored ((Below.heap_setCell _ _ _ _ hne).trans st7.out) _ _) ⟨by rw [HV.out, HN.out]; rfl, atr_below (st7.bel.setCell (p := ⟨gA, 1, none⟩) (by have := st7.far; simp only []; omega) _) (Nat.le_refl _) _ _⟩
        · obtain ⟨m, hm⟩ : ∃ m, m = spanL avB (l.drop k) := ⟨_, rfl⟩
          have hms : k + m ≤ s.size := by
            have := spanL_le avB (l.drop k)
            rw [List.length_drop] at this
            have := HSS.out
            omega
          have hd := s_drop HS.out k
          have hdl : (l.drop k).length ≤ 1000000 := by rw [List.length_drop]; omega
          have HR2 := Lib.hid (atL_5 HI.out HJ.out HK.out hjl2 HC.out hkl2 HQ.out hqq hm)
          have HM := Lib.hid hm
          generalize hde : s.extract k s.size = d3 at *
          have q1 : ((c.toNat : Int) == 34) = false := by rw [beq_eq_false_iff_ne]; omega
          have q2 : ((c.toNat : Int) == 39) = false := by rw [beq_eq_false_iff_ne]; omega
          have b5 := (Below.refl W4.heap.size W4).alloc (Nat.le_refl _) (.cells #[.int .i32 c.toNat] 21)
          have st5 := st4.step b5
          have h5 := heap_alloc_new W4 (.cells #[.int .i32 c.toNat] 21)
          have hI0 : (W4.alloc (.cells #[.int .i32 c.toNat] 21)).cell? ⟨W4.heap.size, 0, none⟩ = some (.int .i32 c.toNat) := by rw [Lib.cell_of_heap h5 0]; rfl
          clear hm hqq st4 b5 h5
          go_wp2_with fail
          refine (span_any takenAv hd hdl (fun _ _ => trivial)).mono ?_
          rintro e W6 ⟨rfl, b6⟩
          have st6 := st5.step b6
          obtain ⟨⟨r0, r1, rf0, rf1⟩, ⟨c0, c1, f1⟩, hne⟩ := st6.cells
          clear hd hdl hde b6 st5 hI0
          rw [← HM.out]
          have hx := s_part HS.out k (k + m)
          rw [show k + m - k = m by omega] at hx
          have hxl : ((l.drop k).take m).length ≤ 1000000 := by rw [List.length_take]; omega
          generalize hxe : s.extract k (k + m) = x2 at *
          go_wp2_with fail
          refine (Decode_any hx hxl).mono ?_
          rintro e W7 ⟨z, rfl, hz, b7⟩
          have st7 := st6.step b7
          obtain ⟨⟨r0, r1, rf0, rf1⟩, ⟨c0, c1, f1⟩, hne⟩ := st7.cells
          have HV := Lib.hid (show atv (atL l).1 = .agg #[.string y, .string z] by rw [HR2.out, HY.out.to, hz.to]; rfl)
          have HN := Lib.hid (show ((atL l).2 : Int) = k + m by rw [HR2.out]; simp)
          go_wp2
          exact ret_atr rfl rfl rfl rfl (atr_stored ((Below.heap_setCell _ _ _ _ hne).trans st7.out) _ _) ⟨by rw [HV.out, HN.out]; rfl, atr_below (st7.bel.setCell (p := ⟨gA, 1, none⟩) (by have := st7.far; simp only []; omega) _) (Nat.le_refl _) _ _⟩
      · have HR := Lib.hid (atL_3 HI.out HJ.out HK.out hjl2 HC.out (by have := HSS.out; omega))
        have hke : k = s.size := by omega
        have HV := Lib.hid (show atv (atL l).1 = .agg #[.string y, .string ⟨#[]⟩] by rw [HR.out, HY.out.to]; rfl)
        have HN := Lib.hid (show ((atL l).2 : Int) = k by rw [HR.out])
        clear hke
        go_wp2
        exact ret_atr rfl rfl rfl rfl (atr_stored st4.out _ _) ⟨by rw [HV.out, HN.out]; rfl, atr_below st4.bel (Nat.le_refl _) _ _⟩
    · have HR := Lib.hid (atL_2 HI.out HJ.out hjl2 hc)
      have q1 : (((s[j]).toNat : Int) != 61) = true := by rw [e1]; simp; omega
      have HV := Lib.hid (show atv (atL l).1 = .agg #[.string y, .string ⟨#[]⟩] by rw [HR.out, HY.out.to]; rfl)
      have HN := Lib.hid (show ((atL l).2 : Int) = j by rw [HR.out])
      generalize hcc : s[j] = c at *
      clear e1 hc
      go_wp2
      exact ret_atr rfl rfl rfl rfl (atr_stored st3.out _ _) ⟨by rw [HV.out, HN.out]; rfl, atr_below st3.bel (Nat.le_refl _) _ _⟩
  · have HR := Lib.hid (atL_1 HI.out HJ.out (by have := HSS.out; omega))
    have hje : j = s.size := by omega
    have HV := Lib.hid (show atv (atL l).1 = .agg #[.string y, .string ⟨#[]⟩] by rw [HR.out, HY.out.to]; rfl)
    have HN := Lib.hid (show ((atL l).2 : Int) = s.size by rw [HR.out, hje])
    clear hje
    go_wp2
    exact ret_atr rfl rfl rfl rfl (atr_stored st3.out _ _) ⟨by rw [HV.out, HN.out]; rfl, atr_below st3.bel (Nat.le_refl _) _ _⟩
end Go.Proofs.YtnkelhmjkmeilaaGreatDoor
end
