/- The package token: Tag, Ends. -/
import Derived.Test.YtninjljkdbemkaaTw7
namespace Go.Proofs.Ytninjljkdbemkaa
open Go.RowKit

theorem cmtL_attrs (l : List UInt8) : (cmtL l).1.attrs = [] := by
  unfold cmtL
  split
  · split <;> rfl
  · split <;> rfl
theorem endL_attrs (l : List UInt8) : (endL l).1.attrs = [] := by
  unfold endL
  split
  · split
    · rfl
    · exact cmtL_attrs l
  · split <;> rfl
/-- what a token's list of attributes owes -/
def TkOk (w w' : World) (t : Tk) (A : Option Addr) (c : Nat) : Prop := t.attrs.length ≤ c ∧ RdP w' (fun b => w.heap.size ≤ b ∧ b < w'.heap.size) 2 A t.attrs.length (atrCells t.attrs)
theorem TkOk.none (w w' : World) {t : Tk} (h : t.attrs = []) : TkOk w w' t none 0 := by
  unfold TkOk
  rw [h]
  exact ⟨Nat.le_refl 0, RdP.nil _ _ _ _⟩
theorem tag_1 {l : List UInt8} (h : startsL l = false) : tagL l = (noTk, 0) := by
  unfold tagL; rw [if_pos h]
theorem tag_2 {l : List UInt8} {c : UInt8} (h : startsL l = true) (h1 : l[1]? = some c) (hc : c.toNat = 47) : tagL l = endL l := by
  unfold tagL; rw [if_neg (by rw [h]; simp), h1]; simp only [hc, if_true]
theorem tag_3 {l : List UInt8} {c : UInt8} (h : startsL l = true) (h1 : l[1]? = some c) (hc : c.toNat = 33 ∨ c.toNat = 63) : tagL l = cmtL l := by
  unfold tagL; rw [if_neg (by rw [h]; simp), h1]
  have : c.toNat ≠ 47 := by omega
  simp only [this, if_false, hc, if_true]
theorem tag_4 {l : List UInt8} {c : UInt8} (h : startsL l = true) (h1 : l[1]? = some c) (hc : c.toNat ≠ 47) (hc2 : ¬ (c.toNat = 33 ∨ c.toNat = 63)) : tagL l = begL l := by
  unfold tagL; rw [if_neg (by rw [h]; simp), h1]
  simp only [hc, if_false, hc2]
theorem starts_two {l : List UInt8} (h : startsL l = true) : 2 ≤ l.length := by
  match l with
  | [] => simp [startsL] at h
  | [c] => simp [startsL] at h
  | a :: c :: t => simp

/-- the result's block, behind a call -/
theorem outCells {w W : World} (h : W.heap[w.heap.size]? = some (.cells #[.int .i64 0, .string ⟨#[]⟩, .slice none 0 0, .string ⟨#[]⟩] 31 (0, 0))) :
    (W.cell? ⟨w.heap.size, 0, none⟩ = some (.int .i64 0) ∧ W.cell? ⟨w.heap.size, 1, none⟩ = some (.string ⟨#[]⟩) ∧ W.cell? ⟨w.heap.size, 2, none⟩ = some (.slice none 0 0) ∧ W.cell? ⟨w.heap.size, 3, none⟩ = some (.string ⟨#[]⟩)) ∧
    (W.frozen? ⟨w.heap.size, 0, none⟩ = false ∧ W.frozen? ⟨w.heap.size, 1, none⟩ = false ∧ W.frozen? ⟨w.heap.size, 2, none⟩ = false ∧ W.frozen? ⟨w.heap.size, 3, none⟩ = false) := by
  have hc := fun j => Lib.cell_of_heap h j
  have c0 := hc 0
  have c1 := hc 1
  have c2 := hc 2
  have c3 := hc 3
  simp only [List.getElem?_toArray, List.getElem?_cons_zero, List.getElem?_cons_succ] at c0 c1 c2 c3
  exact ⟨⟨c0, c1, c2, c3⟩, ⟨Lib.frozen_of_heap h 0, Lib.frozen_of_heap h 1, Lib.frozen_of_heap h 2, Lib.frozen_of_heap h 3⟩⟩

set_option maxHeartbeats 1000000 in
set_option maxRecDepth 100000 in
/-- token.Tag -/
theorem Tag_any {w : World} {s : ByteArray} {l : List UInt8} (hs : IsStr s l) (hl : l.length ≤ 1000000) (hM : M0 w) :
    Calls Try.prog 22 #[.string s] w fun e w' => ∃ A c, e = .returned (.tuple #[tkv (tagL l).1 (.slice A (tagL l).1.attrs.length c), .int .i64 (tagL l).2]) ∧ TkOk w w' (tagL l).1 A c ∧ Below w.heap.size w w' := by
  have hss := hs.size
  have hsb : s.size ≤ 1000000 := by omega
  have ba := (Below.refl w.heap.size w).alloc (Nat.le_refl _) (.cells #[.int .i64 0, .string ⟨#[]⟩, .slice none 0 0, .string ⟨#[]⟩] 31)
  have HM := Lib.hid (hM.below ba)
  have h1 := heap_alloc_new w (.cells #[.int .i64 0, .string ⟨#[]⟩, .slice none 0 0, .string ⟨#[]⟩] 31)
  have HS := Lib.hid hs
  have HSS := Lib.hid hss
  have H1 := Lib.hid h1
  clear hs hss hM h1
  go_enter Try.func22, Try.ntmps22
  go_wp2_with fail
  refine (Starts_any HS.out hl _).mono ?_
  rintro e W1 ⟨rfl, rfl⟩
  cases hst : startsL l with
  | false =>
    have HR := Lib.hid (tag_1 hst)
    clear hst
    go_wp2
    exact ret_tok rfl rfl rfl rfl (heap_alloc_new _ _) ⟨none, 0, by rw [HR.out]; rfl, TkOk.none _ _ (by rw [HR.out]; rfl), ba⟩
  | true =>
    have h2 := starts_two hst
    have hs1 : 1 < s.size := by have := HSS.out; omega
    have e1 := s_byte HS.out 1 hs1 (by omega)
    have h11 : l[1]? = some l[1] := List.getElem?_eq_getElem (by omega)
    generalize l[1] = c at *
    by_cases hc : c.toNat = 47
    · have q1 : (((s[1]).toNat : Int) == 47) = true := by rw [e1, hc]; rfl
      have HR := Lib.hid (tag_2 hst h11 hc)
      generalize hcc : s[1] = cc at *
      clear hst h11 hc e1
      go_wp2_with fail
      refine (ending_any HS.out hl h2 HM.out).mono ?_
      rintro e W2 ⟨rfl, b2⟩
      rw [World.size_alloc] at b2
      have h3 := (b2.block w.heap.size (by omega)).trans H1.out
      obtain ⟨⟨c0, c1, c2, c3⟩, ⟨f0, f1, f2, f3⟩⟩ := outCells h3
      have B2 := ba.trans (b2.mono (by omega))
      have hat := endL_attrs l
      unfold tkv nov
      clear b2
      go_wp2
      exact ret_tok rfl rfl rfl rfl (tok_stored h3 _ _ _ _) ⟨none, 0, by rw [HR.out, hat]; rfl, TkOk.none _ _ (by rw [HR.out, hat]), tok_below B2 (Nat.le_refl _) _ _ _ _⟩
    · have q1 : (((s[1]).toNat : Int) == 47) = false := by rw [e1, beq_eq_false_iff_ne]; omega
      by_cases hc2 : c.toNat = 33 ∨ c.toNat = 63
      · have HR := Lib.hid (tag_3 hst h11 hc2)
        have q2 : ((((s[1]).toNat : Int) == 33) = true) ∨ ((((s[1]).toNat : Int) == 33) = false ∧ (((s[1]).toNat : Int) == 63) = true) := by
          rw [e1]
          rcases hc2 with h | h
          · left; rw [h]; rfl
          · right; rw [h]; exact ⟨rfl, rfl⟩
        generalize hcc : s[1] = cc at *
        clear hst h11 hc hc2 e1
        rcases q2 with q2 | ⟨q2, q3⟩
        all_goals
          go_wp2_with fail
          refine (comment_any HS.out hl h2 HM.out).mono ?_
          rintro e W2 ⟨rfl, b2⟩
          rw [World.size_alloc] at b2
          have h3 := (b2.block w.heap.size (by omega)).trans H1.out
          obtain ⟨⟨c0, c1, c2, c3⟩, ⟨f0, f1, f2, f3⟩⟩ := outCells h3
          have B2 := ba.trans (b2.mono (by omega))
          have hat := cmtL_attrs l
          unfold tkv nov
          clear b2
          go_wp2
          exact ret_tok rfl rfl rfl rfl (tok_stored h3 _ _ _ _) ⟨none, 0, by rw [HR.out, hat]; rfl, TkOk.none _ _ (by rw [HR.out, hat]), tok_below B2 (Nat.le_refl _) _ _ _ _⟩
      · have HR := Lib.hid (tag_4 hst h11 hc hc2)
        have q2 : (((s[1]).toNat : Int) == 33) = false := by rw [e1, beq_eq_false_iff_ne]; omega
        have q3 : (((s[1]).toNat : Int) == 63) = false := by rw [e1, beq_eq_false_iff_ne]; omega
        generalize hcc : s[1] = cc at *
        clear hst h11 hc hc2 e1
        go_wp2_with fail
        refine (beginning_any HS.out hl h2).mono ?_
        rintro e W2 ⟨A, c', rfl, hcap, hrd, b2⟩
        rw [World.size_alloc] at b2 hrd
        have h3 := (b2.block w.heap.size (by omega)).trans H1.out
        obtain ⟨⟨c0, c1, c2, c3⟩, ⟨f0, f1, f2, f3⟩⟩ := outCells h3
        have B2 := ba.trans (b2.mono (by omega))
        unfold tkv
        clear b2
        go_wp2
        refine ret_tok rfl rfl rfl rfl (tok_stored h3 _ _ _ _) ⟨A, c', by rw [HR.out]; rfl, ?_, tok_below B2 (Nat.le_refl _) _ _ _ _⟩
        rw [HR.out]
        exact ⟨hcap, (hrd.keep (fun p hp => tok_cell _ _ _ _ p (by omega))).more (fun b hb => ⟨by omega, by rw [tok_size]; exact hb.2⟩)⟩
end Go.Proofs.Ytninjljkdbemkaa
