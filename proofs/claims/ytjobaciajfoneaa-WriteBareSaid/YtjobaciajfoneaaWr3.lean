/- The package write: begin. -/
import Derived.Test.YtjobaciajfoneaaWr2
namespace Go.Proofs.Ytjobaciajfoneaa
open Go.RowKit

/-- the attribute at k, as the walk reads it -/
theorem Atrs.cells {w : World} {B n : Nat} {A : Option Addr} {l : List Atr} (h : Atrs w B A n l) {k : Nat} (hk : k < n) (hk' : k < l.length) :
    ∃ a, A = some a ∧ (a.add (k * 2)).block < B ∧ w.cell? (a.add (k * 2)) = some (.string ⟨l[k].1.toArray⟩) ∧ w.cell? ⟨(a.add (k * 2)).block, (a.add (k * 2)).off + 1, none⟩ = some (.string ⟨l[k].2.toArray⟩) := by
  obtain ⟨a, e, hb, h1, h2⟩ := h.at_ hk hk'
  refine ⟨a, e, by rw [block_add]; exact hb, h1, ?_⟩
  rw [← add_add, add_pos (a.add (k * 2)) 1 (by omega)] at h2
  exact h2
/-- a block of another type stands behind what puts a text -/
theorem box_kept {b g : Nat} {e T : TypeId} {w w' : World} {cs : Array Value} {fz : Nat × Nat} (h : Lib.OthersKept e (some b) w w') (hg : w.heap[g]? = some (.cells cs T fz)) (hgb : g ≠ b) (hT : T ≠ e) : w'.heap[g]? = some (.cells cs T fz) :=
  h g _ hg (fun e => hgb (Option.some.inj e)) (fun c fz' e => by injection e with _ e2; exact hT e2)
theorem flatAtr_snoc {l : List Atr} {k : Nat} (hk : k < l.length) : (l.take (k + 1)).flatMap atrL = (l.take k).flatMap atrL ++ atrL l[k] := by
  rw [List.take_succ_eq_append_getElem hk, List.flatMap_append]; simp
theorem flatAtr_le (l : List Atr) (k : Nat) : ((l.take k).flatMap atrL).length ≤ (l.flatMap atrL).length := by
  conv => rhs; rw [← List.take_append_drop k l, List.flatMap_append, List.length_append]
  omega
theorem atrL_le {l : List Atr} {k : Nat} (hk : k < l.length) : ((l.take k).flatMap atrL).length + (atrL l[k]).length ≤ (l.flatMap atrL).length := by
  have := flatAtr_le l (k + 1)
  rw [flatAtr_snoc hk, List.length_append] at this
  exact this
theorem atrL_length (a : Atr) : (atrL a).length = 4 + a.1.length + (esc true a.2).length := by
  simp only [atrL, List.length_append, List.length_cons, List.length_nil]; omega

set_option maxHeartbeats 4000000 in
set_option maxRecDepth 100000 in
/-- write.begin -/
theorem begin_any {K : FuncId} {B b : Nat} {Inv : List UInt8 → World → Prop} (HP : Put K B b Inv) {w : World} {a : Addr} {n : Nd} {L : List UInt8} (hB : B ≤ w.heap.size) (hb : b < w.heap.size) (hn : NodeAt w B a n) (hi : Inv L w) (hl : L.length + (opL n).length ≤ 1000000) :
    Calls Try.prog 21 #[.pointer (some a), .func (.func K) #[] #[.pointer (some ⟨b, 0, none⟩)]] w fun e w' => e = .returned (.tuple #[]) ∧ Inv (L ++ opL n) w' ∧ Below B w w' ∧ Lib.OthersKept 5 (some b) w w' := by
  have g0 := hn.k
  have g1 := hn.nm
  have hE := HP.enter
  by_cases hk : n.kind = 1
  · have q1 : (n.kind != 1) = false := by simp [hk]
    have hcl : opL n = [60] ++ (n.name ++ (n.attrs.flatMap atrL ++ [62])) := by simp [opL, hk]
    rw [hcl] at hl ⊢
    simp only [List.length_append, List.length_cons, List.length_nil] at hl
    clear hcl
    go_enter Try.func21, Try.ntmps21
    go_wp2_with fail
    refine (HP.call _ _ _ hi (by simp; omega)).mono ?_
    rintro e W2 ⟨rfl, i2, b2, k2⟩
    have hn2 := hn.keep b2
    have g2 := hn2.nm
    go_wp2_with fail
    refine (HP.call _ _ _ i2 (by simp; omega)).mono ?_
    rintro e W3 ⟨rfl, i3, b3, k3⟩
    have hn3 := hn2.keep b3
    obtain ⟨A, c, g3, hac, hats⟩ := hn3.ats
    have B3 := b2.trans b3
    have K3 := k2.trans k3
    clear b2 b3 k2 k3 g0 g1 g2
    have hal : n.attrs.length ≤ 1000000 := by
      have : ∀ l : List Atr, l.length ≤ (l.flatMap atrL).length := by
        intro l
        induction l with
        | nil => simp
        | cons x l ih => rw [List.flatMap_cons, List.length_append, List.length_cons, atrL_length]; omega
      have := this n.attrs
      omega
    go_wp2
    go_loopw [24] (fun i wr => ∃ k : Nat, i = .int .i64 k ∧ k ≤ n.attrs.length ∧ Inv (L ++ [60] ++ n.name ++ (n.attrs.take k).flatMap atrL) wr ∧ Below B w wr ∧ Lib.OthersKept 5 (some b) w wr ∧ Atrs wr B A n.attrs.length n.attrs) (fun i _ => n.attrs.length - (intOf i).toNat)
    case atStart => exact ⟨0, rfl, Nat.zero_le _, by simpa using i3, B3, K3, hats⟩
    case round =>
      obtain ⟨k, rfl, hk1, ir, br, kr, har⟩ := hrel
      by_cases hlt : k < n.attrs.length
      · obtain ⟨ad, rfl, hab, ga, gb⟩ := har.cells hlt hlt
        have hle := atrL_le hlt
        have hsn := Lib.hid (flatAtr_snoc hlt)
        have hlen := atrL_length n.attrs[k]
        have hel := (esc_length true n.attrs[k].2).1
        generalize n.attrs[k] = at_ at *
        have hrb := br.size
        have i0 := HP.keep _ _ _ ir (oth_of_below ((Below.refl _ wr).alloc (Nat.le_refl _) (.cells #[.string ⟨at_.1.toArray⟩, .string ⟨at_.2.toArray⟩] 25)))
        have box0 := heap_alloc_new wr (.cells #[.string ⟨at_.1.toArray⟩, .string ⟨at_.2.toArray⟩] 25)
        have hgb : wr.heap.size ≠ b := by omega
        go_wp2_with fail
        refine (HP.call _ _ _ i0 (by simp only [List.length_append, List.length_cons, List.length_nil]; omega)).mono ?_
        rintro e W4 ⟨rfl, i4, b4, k4⟩
        have box4 := box_kept k4 box0 hgb (by decide)
        have cA := Lib.cell_of_heap box4 0
        simp only [List.getElem?_toArray, List.getElem?_cons_zero] at cA
        go_wp2_with fail
        refine (HP.call _ _ _ i4 (by simp only [List.length_append, List.length_cons, List.length_nil]; omega)).mono ?_
        rintro e W5 ⟨rfl, i5, b5, k5⟩
        have box5 := box_kept k5 box4 hgb (by decide)
        clear cA
        go_wp2_with fail
        refine (HP.call _ _ _ i5 (by simp only [List.length_append, List.length_cons, List.length_nil]; omega)).mono ?_
        rintro e W6 ⟨rfl, i6, b6, k6⟩
        have box6 := box_kept k6 box5 hgb (by decide)
        have cB := Lib.cell_of_heap box6 1
        simp only [List.getElem?_toArray, List.getElem?_cons_succ, List.getElem?_cons_zero] at cB
        go_wp2_with fail
        refine (Escape_any (IsStr.mk at_.2) (by omega) true).mono ?_
        rintro e W7 ⟨t, rfl, ht, b7⟩
        obtain rfl := ht.to
        clear ht cB
        have i7 := HP.keep _ _ _ i6 (oth_of_below b7)
        go_wp2_with fail
        refine (HP.call _ _ _ i7 (by simp only [List.length_append, List.length_cons, List.length_nil]; omega)).mono ?_
        rintro e W8 ⟨rfl, i8, b8, k8⟩
        go_wp2_with fail
        refine (HP.call _ _ _ i8 (by simp only [List.length_append, List.length_cons, List.length_nil]; omega)).mono ?_
        rintro e W9 ⟨rfl, i9, b9, k9⟩
        have hs6 : wr.heap.size ≤ W6.heap.size := by have h4 := b4.size; have h5 := b5.size; have h6 := b6.size; simp at h4; omega
        have BB : Below B wr W9 := (((((((Below.refl B wr).alloc (by omega) _).trans b4).trans b5).trans b6).trans (b7.mono (by omega))).trans b8).trans b9
        have KK : Lib.OthersKept 5 (some b) wr W9 := (((((((Lib.OthersKept.refl _ _ wr).alloc _).trans k4).trans k5).trans k6).trans (oth_of_below b7)).trans k8).trans k9
        have ie : L ++ [60] ++ n.name ++ (n.attrs.take k).flatMap atrL ++ [32] ++ at_.1 ++ [61, 34] ++ esc true at_.2 ++ [34] = L ++ [60] ++ n.name ++ (n.attrs.take (k + 1)).flatMap atrL := by
          rw [hsn.out]; simp only [atrL, List.append_assoc]
        rw [ie] at i9
        clear ie
        have ha9 := har.below BB
        clear box0 box4 box5 box6 b4 b5 b6 b7 b8 b9 k4 k5 k6 k8 k9 i0 i4 i5 i6 i7 i8 ga gb har
        go_wp2
        go_roundw
        case rel => exact ⟨k + 1, by go_num, by omega, i9, br.trans BB, kr.trans KK, ha9⟩
        case measure => simp [intOf]; omega
      · rw [List.take_of_length_le (by omega)] at ir
        clear g3 har
        go_wp2_with fail
        refine (HP.call _ _ _ ir (by simp only [List.length_append, List.length_cons, List.length_nil]; omega)).mono ?_
        rintro e W4 ⟨rfl, i4, b4, k4⟩
        go_wp2
        go_end0
        exact ⟨rfl, by simpa using i4, br.trans b4, kr.trans k4⟩
  · have q1 : (n.kind != 1) = true := by simp [hk]
    have hcl : opL n = [] := by simp [opL, hk]
    rw [hcl, List.append_nil]
    clear hcl hk
    go_enter Try.func21, Try.ntmps21
    go_wp2
    refine bodyPost_ret (results_none rfl _ _ _) rfl ?_
    exact ⟨rfl, hi, Below.refl _ _, Lib.OthersKept.refl _ _ _⟩
end Go.Proofs.Ytjobaciajfoneaa
