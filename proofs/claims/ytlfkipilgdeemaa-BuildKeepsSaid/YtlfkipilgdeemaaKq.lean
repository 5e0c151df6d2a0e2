/- The package build: Open, Tree. Plain: how much a tree weighs. -/
import Derived.Test.YtlfkipilgdeemaaKo
namespace Go.Proofs.Ytlfkipilgdeemaa
open Go.RowKit Go.Maps Go.WideMaps
attribute [local go_sem ↓] Go.wp_at_zero Go.wp_at_succ

/-- a pointer to a token -/
def TokAt (w : World) (B : Nat) (a : Addr) (t : Tk) : Prop := a.block < B ∧ w.cell? a = some (.int .i64 t.kind) ∧ w.cell? ⟨a.block, a.off + 1, none⟩ = some (.string ⟨t.name.toArray⟩) ∧ w.cell? ⟨a.block, a.off + 3, none⟩ = some (.string ⟨t.text.toArray⟩) ∧
  ∃ A c, w.cell? ⟨a.block, a.off + 2, none⟩ = some (.slice A t.attrs.length c) ∧ t.attrs.length ≤ c ∧ Atrs w B A t.attrs.length t.attrs
theorem Toks.at_ {w : World} {B n : Nat} {A : Option Addr} {l : List Tk} (h : Toks w B A n l) {k : Nat} (hk : k < l.length) : ∃ a, A = some a ∧ TokAt w B (a.add (k * 4)) l[k] := by
  obtain ⟨xs, h1, h2⟩ := h
  have hl := h2.len
  obtain ⟨a, rfl, hb, hc⟩ := h1.2 (by intro e; subst e; simp at hl; omega)
  obtain ⟨cs, ⟨A', c', rfl, h5, h6⟩, h4⟩ := h2.at_ hk
  have hcell : ∀ j, 0 < j → ∀ u, xs[k * 4 + j]? = some u → w.cell? ⟨(a.add (k * 4)).block, (a.add (k * 4)).off + j, none⟩ = some u := fun j hj u hu => by
    have := hc _ u hu
    rw [← add_add, add_pos _ j hj] at this
    exact this
  refine ⟨a, rfl, by rw [block_add]; exact hb, hc _ _ (by rw [← Nat.add_zero (k * 4), h4 0 (by omega)]; rfl), hcell 1 (by omega) _ (by rw [h4 1 (by omega)]; rfl), hcell 3 (by omega) _ (by rw [h4 3 (by omega)]; rfl), A', c', hcell 2 (by omega) _ (by rw [h4 2 (by omega)]; rfl), h5, h6⟩
theorem TokAt.below {w w' : World} {B : Nat} {a : Addr} {t : Tk} (h : TokAt w B a t) (hb : Below B w w') : TokAt w' B a t := by
  obtain ⟨h0, h1, h2, h3, A, c, h4, h5, h6⟩ := h
  exact ⟨h0, (hb.cell h0).trans h1, (hb.cell (p := ⟨a.block, a.off + 1, none⟩) h0).trans h2, (hb.cell (p := ⟨a.block, a.off + 3, none⟩) h0).trans h3, A, c, (hb.cell (p := ⟨a.block, a.off + 2, none⟩) h0).trans h4, h5, Rd.below (B := B) h6 hb⟩

/-- a token that is small -/
def TkOk (t : Tk) : Prop := KindOk t.kind ∧ t.name.length ≤ 1000 ∧ t.text.length ≤ 1000 ∧ t.attrs.length ≤ 1000

theorem wtL_append (l m : List Nd) : wtL (l ++ m) = wtL l + wtL m := by
  induction l with
  | nil => simp [wtL]
  | cons n l ih => simp only [List.cons_append, wtL, ih]; omega
theorem popWhile_tree (nm : List UInt8) : ∀ (fs : Frs) (l : List Nd), (popWhile nm fs l).tree = closeAll fs l
  | [], l => rfl
  | (k, h) :: fs, l => by
    simp only [popWhile]
    split
    · rw [popWhile_tree nm fs]; rfl
    · rfl
theorem popTo_tree (nm : List UInt8) : ∀ (fs : Frs) (l : List Nd), (popTo nm fs l).tree = closeAll fs l
  | [], l => rfl
  | (k, h) :: fs, l => by
    simp only [popTo]
    split
    · rfl
    · rw [popTo_tree nm fs]; rfl
theorem endZ_tree (z : Zp) (nm : List UInt8) : (endZ z nm).tree = z.tree := by
  unfold endZ
  split
  · rfl
  · rw [popTo_tree]; rfl
theorem beginZ_tree (z : Zp) (nm : List UInt8) (ats : List Atr) : ∃ fs l, closeAll fs l = z.tree ∧ (beginZ z nm ats).tree = closeAll fs (l ++ [elemN (nm, ats) []]) := by
  refine ⟨(popWhile nm z.fr z.last).fr, (popWhile nm z.fr z.last).last, popWhile_tree nm z.fr z.last, ?_⟩
  unfold beginZ
  simp only
  split <;> rfl
/-- a sum over nodes -/
structure Sum (f : List Nd → Nat) (c : Hd → Nat) : Prop where
  nil : f [] = 0
  app : ∀ l m, f (l ++ m) = f l + f m
  elem : ∀ h l, f [elemN h l] = c h + f l
theorem Sum.close {f : List Nd → Nat} {c : Hd → Nat} (S : Sum f c) : ∀ (fs : Frs) (l m : List Nd), f (closeAll fs (l ++ m)) = f (closeAll fs l) + f m
  | [], l, m => S.app l m
  | (k, h) :: fs, l, m => by
    simp only [closeAll]
    have h1 := S.close fs k [elemN h (l ++ m)]
    have h2 := S.close fs k [elemN h l]
    rw [h1, h2, S.elem, S.elem, S.app]
    omega
theorem addText_sum {f : List Nd → Nat} {c : Hd → Nat} (S : Sum f c) {a : Nat} (ht : ∀ nm ats tx x kids, f [.mk 2 nm ats (tx ++ x) kids] = f [.mk 2 nm ats tx kids]) (h1 : ∀ x, f [.mk 2 [] [] x []] ≤ a) (fs : Frs) (l : List Nd) (x : List UInt8) : f (closeAll fs (addText l x)) ≤ f (closeAll fs l) + a := by
  rcases List.eq_nil_or_concat l with rfl | ⟨l', n, rfl⟩
  · have := S.close fs [] [.mk 2 [] [] x []]
    rw [List.nil_append] at this
    simp only [addText]
    rw [this]
    have := h1 x
    omega
  · obtain ⟨k, nm, ats, tx, kids⟩ := n
    rw [List.concat_eq_append, addText_snoc]
    split
    · rename_i hk
      subst hk
      rw [S.close, S.close, ht]
      omega
    · rw [show l' ++ [Nd.mk k nm ats tx kids, Nd.mk 2 [] [] x []] = (l' ++ [Nd.mk k nm ats tx kids]) ++ [Nd.mk 2 [] [] x []] by simp, S.close fs (l' ++ [_]) [_]]
      have := h1 x
      omega
/-- .. of a tree, with a token more -/
theorem putZ_sum {f : List Nd → Nat} {c : Hd → Nat} (S : Sum f c) {a : Nat} (ht : ∀ nm ats tx x kids, f [.mk 2 nm ats (tx ++ x) kids] = f [.mk 2 nm ats tx kids]) (h1 : ∀ x, f [.mk 2 [] [] x []] ≤ a) (h3 : ∀ x, f [.mk 3 [] [] x []] ≤ a) (z : Zp) (t : Tk) :
    f (putZ z t).tree ≤ f z.tree + (if t.kind = 1 then c (t.name, t.attrs) else if t.kind = 3 ∨ t.kind = 4 then a else 0) := by
  unfold putZ
  by_cases k1 : t.kind = 1
  · rw [if_pos k1, if_pos k1]
    obtain ⟨fs, l, e1, e2⟩ := beginZ_tree z t.name t.attrs
    rw [e2, S.close, e1, S.elem, S.nil]
    omega
  · rw [if_neg k1, if_neg k1]
    by_cases k2 : t.kind = 2
    · rw [if_pos k2, endZ_tree]
      omega
    · rw [if_neg k2]
      by_cases k3 : t.kind = 3
      · rw [if_pos k3, if_pos (.inl k3)]
        unfold charsZ
        split
        · omega
        · exact addText_sum S ht h1 z.fr z.last t.text
      · rw [if_neg k3]
        by_cases k4 : t.kind = 4
        · rw [if_pos k4, if_pos (.inr k4)]
          unfold remarkZ
          show f (closeAll z.fr (z.last ++ _)) ≤ _
          rw [S.close]
          have := h3 t.text
          show f (closeAll z.fr z.last) + _ ≤ f (closeAll z.fr z.last) + a
          omega
        · rw [if_neg k4]
          omega
theorem wtL_sum : Sum wtL (fun _ => 2) := ⟨rfl, wtL_append, fun h l => by simp only [wtL, elemN, wt1]; omega⟩
theorem putsZ_wt (l : List Tk) : ∀ z : Zp, wtL (putsZ z l).tree ≤ wtL z.tree + 2 * l.length := by
  induction l with
  | nil => intro z; simp [putsZ]
  | cons t l ih =>
    intro z
    have h1 := ih (putZ z t)
    have h2 := putZ_sum wtL_sum (a := 2) (fun _ _ _ _ _ => rfl) (fun _ => by simp [wtL, wt1]) (fun _ => by simp [wtL, wt1]) z t
    have h3 : (if t.kind = 1 then 2 else if t.kind = 3 ∨ t.kind = 4 then 2 else 0) ≤ 2 := by split <;> (try split) <;> omega
    simp only [putsZ, List.foldl_cons, List.length_cons] at h1 ⊢
    omega

set_option maxHeartbeats 2000000 in
set_option maxRecDepth 100000 in
/-- Tree -/
theorem Tree_any {w : World} {A : Option Addr} {c : Nat} {l : List Tk} (hT : Toks w w.heap.size A l.length l) (hc : l.length ≤ c) (hn : l.length ≤ 290) (hok : ∀ t ∈ l, TkOk t) :
    Calls Try.prog 14 #[.slice A l.length c] w fun e w' => ∃ A' c' D, e = .returned (.slice A' (treeL l).length c') ∧ (treeL l).length ≤ c' ∧ NodesP w' D A' (treeL l).length (treeL l) ∧ Below w.heap.size w w' ∧
      ∀ q, D q → w.heap.size ≤ q ∧ q < w'.heap.size ∧ ∃ arr e, w'.heap[q]? = some (.cells arr e (0, 0)) := by
  go_enter Try.func14, Try.ntmps14
  go_wp2_with fail
  refine (New_any w).mono ?_
  rintro e W1 ⟨rfl, b1, own, m1⟩
  have hs1 := (m1.lt _ _ m1.me).2
  go_wp2_with fail
  go_loopw [9] (fun iv wr => ∃ k : Nat, iv = .int .i64 k ∧ k ≤ l.length ∧ BI wr w.heap.size (w.heap.size + 1) (3 * k) (putsZ ⟨[], []⟩ (l.take k)) ∧ Below w.heap.size w wr) (fun iv _ => l.length - (intOf iv).toNat)
  case atStart => exact ⟨0, rfl, Nat.zero_le _, ⟨own, _, _, _, _, m1, ZR.start⟩, b1⟩
  case round =>
    obtain ⟨k, rfl, hk, hB, hw⟩ := hrel
    clear m1
    by_cases hlt : k < l.length
    · obtain ⟨a, rfl, hta⟩ := hT.at_ hlt
      have hta2 := hta.below hw
      obtain ⟨ht0, ht1, ht2, ht3, A2, c2, ht4, ht5, ht6⟩ := hta2
      obtain ⟨ok1, ok2, ok3, ok4⟩ := hok l[k] (List.getElem_mem _)
      have HNX := Lib.hid (show putsZ ⟨[], []⟩ (l.take (k + 1)) = putZ (putsZ ⟨[], []⟩ (l.take k)) l[k] by rw [List.take_succ_eq_append_getElem hlt, putsZ, List.foldl_append]; rfl)
      clear hta
      generalize l[k] = t at *
      have b2 : Below wr.heap.size wr (wr.alloc (.cells #[.int .i64 t.kind, .string ⟨t.name.toArray⟩, .slice A2 t.attrs.length c2, .string ⟨t.text.toArray⟩] 29)) := (Below.refl _ wr).alloc (Nat.le_refl _) _
      have HB2 := Lib.hid (hB.below b2 (Nat.le_refl _))
      have HW2 := Lib.hid (hw.trans (b2.mono hw.size))
      have HA2 := Lib.hid (Rd.below (B := w.heap.size) ht6 (b2.mono hw.size))
      clear hB b2 ht6
      go_wp2_with fail
      refine (Put_any HB2.out (by omega) t A2 c2 ok1 ok2 ok3 ok4 HA2.out).mono ?_
      rintro e W2 ⟨rfl, b3, i3⟩
      clear ht1 ht2 ht3 ht4
      go_wp2
      go_roundw
      case rel => exact ⟨k + 1, by go_num, by omega, by rw [HNX.out]; exact i3, HW2.out.trans b3⟩
      case measure => simp [intOf]; omega
    · obtain rfl : k = l.length := by omega
      rw [List.take_length] at hB
      have hwt := putsZ_wt l ⟨[], []⟩
      have hwt0 : wtL (Zp.tree ⟨[], []⟩) = 0 := rfl
      go_wp2_with fail
      refine (Nodes_any hB (by omega) (by omega)).mono ?_
      rintro e W2 ⟨A', c', D, rfl, h2, h3, h4, h5⟩
      have h6 := hw.trans (h4.mono hw.size)
      clear hwt hwt0
      go_wp2
      go_ret
      exact ⟨A', c', D, rfl, h2, h3, h6, fun q hq => ⟨by have := (h5 q hq).1; have := hw.size; omega, (h5 q hq).2⟩⟩
end Go.Proofs.Ytlfkipilgdeemaa
