/- The package build: Open, Tree. Plain: how much a tree weighs. parse.run: bytes to nodes. Plain: what TopDeep's bytes come to: the tokens, the tree, the text that is written. What TopDeep's walk asks beside the walks of what it calls: its tag, its text cut, its node, its bytes as a string. parse.Bytes, write.Text and parse.Deep at TopDeep's bytes. -/
import Derived.Test.YtnkelhmjkmeilaaGreatDoorT37
import Derived.Test.YtnkelhmjkmeilaaGreatDoorT13
import Derived.Test.YtnkelhmjkmeilaaGreatDoorT08
import Derived.Test.YtnkelhmjkmeilaaGreatDoorT14
import Derived.Test.YtnkelhmjkmeilaaGreatDoorT01
import Derived.Test.YtnkelhmjkmeilaaGreatDoorT09
import Derived.Test.YtnkelhmjkmeilaaGreatDoorT34
import Derived.Test.YtnkelhmjkmeilaaGreatDoorT06
section
namespace Go.Proofs.YtnkelhmjkmeilaaGreatDoor.K
open Go.RowKit Go.Maps Go.WideMaps
attribute [local go_sem ↓] Go.wp_at_zero Go.wp_at_succ
def TokAt (w : World) (B : Nat) (a : Addr) (t : Tk) : Prop := a.block < B ∧ w.cell? a = some (.int .i64 t.kind) ∧ w.cell? ⟨a.block, a.off + 1, none⟩ = some (.string ⟨t.name.toArray⟩) ∧ w.cell? ⟨a.block, a.off + 3, none⟩ = some (.string ⟨t.text.toArray⟩) ∧
  ∃ A c, w.cell? ⟨a.block, a.off + 2, none⟩ = some (.slice A t.attrs.length c) ∧ t.attrs.length ≤ c ∧ Atrs w B A t.attrs.length t.attrs
theorem Toks.at_ {w : World} {B n : Nat} {A : Option Addr} {l : List Tk} (h : Toks w B A n l) {k : Nat} (hk : k < l.length) : ∃ a, A = some a ∧ TokAt w B (a.add (k * 4)) l[k] := by
  obtain ⟨xs, h1, h2⟩ := h
  have hl := h2.len
  obtain ⟨a, rfl, hb, hc⟩ := h1.2 (by intro e; subst e; simp at hl; omega)
  obtain ⟨cs, ⟨A', c', rfl, h5, h6⟩, h4⟩ := h2.at_ hk
  have hcell : ∀ j, 0 < j → ∀ u, xs[k * 4 + j]? = some u → w.cell? ⟨(a.add (k * 4)).block, (a.add (k * 4)).off + j, none⟩ = some u := fun j hj u hu => by
    have := hc _ u hu
    rw [← add_add, add_pos _ j hj] at this
    exact this
  refine ⟨a, rfl, by rw [block_add]; exact hb, hc _ _ (by rw [← Nat.add_zero (k * 4), h4 0 (by omega)]; rfl), hcell 1 (by omega) _ (by rw [h4 1 (by omega)]; rfl), hcell 3 (by omega) _ (by rw [h4 3 (by omega)]; rfl), A', c', hcell 2 (by omega) _ (by rw [h4 2 (by omega)]; rfl), h5, h6⟩
theorem TokAt.below {w w' : World} {B : Nat} {a : Addr} {t : Tk} (h : TokAt w B a t) (hb : Below B w w') : TokAt w' B a t := by
  obtain ⟨h0, h1, h2, h3, A, c, h4, h5, h6⟩ := h
  exact ⟨h0, (hb.cell h0).trans h1, (hb.cell (p := ⟨a.block, a.off + 1, none⟩) h0).trans h2, (hb.cell (p := ⟨a.block, a.off + 3, none⟩) h0).trans h3, A, c, (hb.cell (p := ⟨a.block, a.off + 2, none⟩) h0).trans h4, h5, Rd.below (B := B) h6 hb⟩
def TkOk (t : Tk) : Prop := KindOk t.kind ∧ t.name.length ≤ 1000 ∧ t.text.length ≤ 2000 ∧ t.attrs.length ≤ 1000
theorem wtL_append (l m : List Nd) : wtL (l ++ m) = wtL l + wtL m := by
  induction l with
  | nil => simp [wtL]
  | cons n l ih => simp only [List.cons_append, wtL, ih]; omega
theorem popWhile_tree (nm : List UInt8) : ∀ (fs : Frs) (l : List Nd), (popWhile nm fs l).tree = closeAll fs l
  | [], l => rfl
  | (k, h) :: fs, l => by
    simp only [popWhile]
    split
    · rw [popWhile_tree nm fs]; rfl
    · rfl
theorem popTo_tree (nm : List UInt8) : ∀ (fs : Frs) (l : List Nd), (popTo nm fs l).tree = closeAll fs l
  | [], l => rfl
  | (k, h) :: fs, l => by
    simp only [popTo]
    split
    · rfl
    · rw [popTo_tree nm fs]; rfl
theorem endZ_tree (z : Zp) (nm : List UInt8) : (endZ z nm).tree = z.tree := by
  unfold endZ
  split
  · rfl
  · rw [popTo_tree]; rfl
theorem beginZ_tree (z : Zp) (nm : List UInt8) (ats : List Atr) : ∃ fs l, closeAll fs l = z.tree ∧ (beginZ z nm ats).tree = closeAll fs (l ++ [elemN (nm, ats) []]) := by
  refine ⟨(popWhile nm z.fr z.last).fr, (popWhile nm z.fr z.last).last, popWhile_tree nm z.fr z.last, ?_⟩
  unfold beginZ
  simp only
  split <;> rfl
structure Sum (f : List Nd → Nat) (c : Hd → Nat) : Prop where
  nil : f [] = 0
  app : ∀ l m, f (l ++ m) = f l + f m
  elem : ∀ h l, f [elemN h l] = c h + f l
theorem Sum.close {f : List Nd → Nat} {c : Hd → Nat} (S : Sum f c) : ∀ (fs : Frs) (l m : List Nd), f (closeAll fs (l ++ m)) = f (closeAll fs l) + f m
  | [], l, m => S.app l m
  | (k, h) :: fs, l, m => by
    simp only [closeAll]
    have h1 := S.close fs k [elemN h (l ++ m)]
    have h2 := S.close fs k [elemN h l]
    rw [h1, h2, S.elem, S.elem, S.app]
    omega
theorem addText_sum {f : List Nd → Nat} {c : Hd → Nat} (S : Sum f c) {a : Nat} (ht : ∀ nm ats tx x kids, f [.mk 2 nm ats (tx ++ x) kids] = f [.mk 2 nm ats tx kids]) (h1 : ∀ x, f [.mk 2 [] [] x []] ≤ a) (fs : Frs) (l : List Nd) (x : List UInt8) : f (closeAll fs (addText l x)) ≤ f (closeAll fs l) + a := by
  rcases List.eq_nil_or_concat l with rfl | ⟨l', n, rfl⟩
  · have := S.close fs [] [.mk 2 [] [] x []]
    rw [List.nil_append] at this
    simp only [addText]
    rw [this]
    have := h1 x
    omega
  · obtain ⟨k, nm, ats, tx, kids⟩ := n
    rw [List.concat_eq_append, addText_snoc]
    split
    · rename_i hk
      subst hk
      rw [S.close, S.close, ht]
      omega
    · rw [show l' ++ [Nd.mk k nm ats tx kids, Nd.mk 2 [] [] x []] = (l' ++ [Nd.mk k nm ats tx kids]) ++ [Nd.mk 2 [] [] x []] by simp, S.close fs (l' ++ [_]) [_]]
      have := h1 x
      omega
theorem putZ_sum {f : List Nd → Nat} {c : Hd → Nat} (S : Sum f c) {a : Nat} (ht : ∀ nm ats tx x kids, f [.mk 2 nm ats (tx ++ x) kids] = f [.mk 2 nm ats tx kids]) (h1 : ∀ x, f [.mk 2 [] [] x []] ≤ a) (h3 : ∀ x, f [.mk 3 [] [] x []] ≤ a) (z : Zp) (t : Tk) :
    f (putZ z t).tree ≤ f z.tree + (if t.kind = 1 then c (t.name, t.attrs) else if t.kind = 3 ∨ t.kind = 4 then a else 0) := by
  unfold putZ
  by_cases k1 : t.kind = 1
  · rw [if_pos k1, if_pos k1]
    obtain ⟨fs, l, e1, e2⟩ := beginZ_tree z t.name t.attrs
    rw [e2, S.close, e1, S.elem, S.nil]
    omega
  · rw [if_neg k1, if_neg k1]
    by_cases k2 : t.kind = 2
    · rw [if_pos k2, endZ_tree]
      omega
    · rw [if_neg k2]
      by_cases k3 : t.kind = 3
      · rw [if_pos k3, if_pos (.inl k3)]
        unfold charsZ
        split
        · omega
        · exact addText_sum S ht h1 z.fr z.last t.text
      · rw [if_neg k3]
        by_cases k4 : t.kind = 4
        · rw [if_pos k4, if_pos (.inr k4)]
          unfold remarkZ
          show f (closeAll z.fr (z.last ++ _)) ≤ _
          rw [S.close]
          have := h3 t.text
          show f (closeAll z.fr z.last) + _ ≤ f (closeAll z.fr z.last) + a
          omega
        · rw [if_neg k4]
          omega
theorem wtL_sum : Sum wtL (fun _ => 2) := ⟨rfl, wtL_append, fun h l => by simp only [wtL, elemN, wt1]; omega⟩
theorem putsZ_wt (l : List Tk) : ∀ z : Zp, wtL (putsZ z l).tree ≤ wtL z.tree + 2 * l.length := by
  induction l with
  | nil => intro z; simp [putsZ]
  | cons t l ih =>
    intro z
    have h1 := ih (putZ z t)
    have h2 := putZ_sum wtL_sum (a := 2) (fun _ _ _ _ _ => rfl) (fun _ => by simp [wtL, wt1]) (fun _ => by simp [wtL, wt1]) z t
    have h3 : (if t.kind = 1 then 2 else if t.kind = 3 ∨ t.kind = 4 then 2 else 0) ≤ 2 := by split <;> (try split) <;> omega
    simp only [putsZ, List.foldl_cons, List.length_cons] at h1 ⊢
    omega
set_option maxHeartbeats 2000000 in
set_option maxRecDepth 100000 in
theorem Tree_any {w : World} {A : Option Addr} {c : Nat} {l : List Tk} (hT : Toks w w.heap.size A l.length l) (_hc : l.length ≤ c) (hn : l.length ≤ 2900) (hok : ∀ t ∈ l, TkOk t) :
    Calls Tryz.prog 349 #[.slice A l.length c] w fun e w' => ∃ A' c' D, e = .returned (.slice A' (treeL l).length c') ∧ (treeL l).length ≤ c' ∧ NodesP w' D A' (treeL l).length (treeL l) ∧ Below w.heap.size w w' ∧
      ∀ q, D q → w.heap.size ≤ q ∧ q < w'.heap.size ∧ ∃ arr e, w'.heap[q]? = some (.cells arr e (0, 0)) := by
  go_enter Tryz.func349, Tryz.ntmps349
  go_wp2_with fail
  refine (New_any w).mono ?_
  rintro e W1 ⟨rfl, b1, own, m1⟩
  have hs1 := (m1.lt _ _ m1.me).2
  go_wp2_with fail
  go_loopw [9] (fun iv wr => ∃ k : Nat, iv = .int .i64 k ∧ k ≤ l.length ∧ BI wr w.heap.size (w.heap.size + 1) (3 * k) (putsZ ⟨[], []⟩ (l.take k)) ∧ Below w.heap.size w wr) (fun iv _ => l.length - (intOf iv).toNat)
  case atStart => exact ⟨0, rfl, Nat.zero_le _, ⟨own, _, _, _, _, m1, ZR.start⟩, b1⟩
  case round =>
    obtain ⟨k, rfl, hk, hB, hw⟩ := hrel
    clear m1
    by_cases hlt : k < l.length
    · obtain ⟨a, rfl, hta⟩ := hT.at_ hlt
      have hta2 := hta.below hw
      obtain ⟨ht0, ht1, ht2, ht3, A2, c2, ht4, ht5, ht6⟩ := hta2
      obtain ⟨ok1, ok2, ok3, ok4⟩ := hok l[k] (List.getElem_mem _)
      have HNX := Lib.hid (show putsZ ⟨[], []⟩ (l.take (k + 1)) = putZ (putsZ ⟨[], []⟩ (l.take k)) l[k] by rw [List.take_succ_eq_append_getElem hlt, putsZ, List.foldl_append]; rfl)
      clear hta
      generalize l[k] = t at *
      have b2 : Below wr.heap.size wr (wr.alloc (.cells #[.int .i64 t.kind, .string ⟨t.name.toArray⟩, .slice A2 t.attrs.length c2, .string ⟨t.text.toArray⟩] 443)) := (Below.refl _ wr).alloc (Nat.le_refl _) _
      have HB2 := Lib.hid (hB.below b2 (Nat.le_refl _))
      have HW2 := Lib.hid (hw.trans (b2.mono hw.size))
      have HA2 := Lib.hid (Rd.below (B := w.heap.size) ht6 (b2.mono hw.size))
      clear hB b2 ht6
      go_wp2_with fail
      refine (Put_any HB2.out (by omega) t A2 c2 ok1 ok2 ok3 ok4 HA2.out).mono ?_
      rintro e W2 ⟨rfl, b3, i3⟩
      clear ht1 ht2 ht3 ht4
      go_wp2
      go_roundw
      case rel => exact ⟨k + 1, by go_num, by omega, by rw [HNX.out]; exact i3, HW2.out.trans b3⟩
      case measure => simp [intOf]; omega
    · obtain rfl : k = l.length := by omega
      rw [List.take_length] at hB
      have hwt := putsZ_wt l ⟨[], []⟩
      have hwt0 : wtL (Zp.tree ⟨[], []⟩) = 0 := rfl
      go_wp2_with fail
      refine (Nodes_any hB (by omega) (by omega)).mono ?_
      rintro e W2 ⟨A', c', D, rfl, h2, h3, h4, h5⟩
      have h6 := hw.trans (h4.mono hw.size)
      clear hwt hwt0
      go_wp2
      go_ret
      exact ⟨A', c', D, rfl, h2, h3, h6, fun q hq => ⟨by have := (h5 q hq).1; have := hw.size; omega, (h5 q hq).2⟩⟩
end Go.Proofs.YtnkelhmjkmeilaaGreatDoor.K
end
section
namespace Go.Proofs.YtnkelhmjkmeilaaGreatDoor
open Go.RowKit
def kTk (t : Tk) : K.Tk := ⟨t.kind, t.name, t.attrs, t.text⟩
theorem tsis_k {w : World} {S : Nat → Prop} : ∀ {l : List Tk} {cs : List Value}, TsIs w S l cs → K.TsIs w S (l.map kTk) cs
  | [], _, h => h
  | t :: l, _, h => by
    obtain ⟨a, b, e, h1, h2⟩ := h
    exact ⟨a, b, e, h1, tsis_k h2⟩
theorem toks_k {w : World} {S : Nat → Prop} {A : Option Addr} {n : Nat} {l : List Tk} (h : ToksP w S A n l) : K.ToksP w S A n (l.map kTk) := by
  obtain ⟨xs, h1, h2⟩ := h
  exact ⟨xs, h1, tsis_k h2⟩
theorem mth_g (k : Nat) (v : Value) (w : World) : (method (k + 1) 36 v "strainer/parse.next").run Tryz.prog w = .ok (284, v) w := by kernel_rfl
theorem mth_r (k : Nat) (v : Value) (w : World) : (method (k + 1) 432 v "strainer/parse.next").run Tryz.prog w = .ok (313, v) w := by kernel_rfl
theorem mth_t (k : Nat) (v : Value) (w : World) : (method (k + 1) 440 v "strainer/parse.next").run Tryz.prog w = .ok (348, v) w := by kernel_rfl
theorem as_g (v : Value) (w : World) : (Instr.typeAssert (.iface 36 v) 54 55 true).run Tryz.prog w = .ok (.tuple #[.slice none 0 0, .bool false]) w := by kernel_rfl
theorem as_r (v : Value) (w : World) : (Instr.typeAssert (.iface 432 v) 54 55 true).run Tryz.prog w = .ok (.tuple #[.slice none 0 0, .bool false]) w := by kernel_rfl
theorem as_t (v : Value) (w : World) : (Instr.typeAssert (.iface 440 v) 54 55 true).run Tryz.prog w = .ok (.tuple #[.slice none 0 0, .bool false]) w := by kernel_rfl
theorem as_n (v : Value) (w : World) : (Instr.typeAssert (.iface 55 v) 54 55 true).run Tryz.prog w = .ok (.tuple #[v, .bool true]) w := by kernel_rfl
theorem as_n' (v : Value) (w : World) : (Instr.typeAssert (.iface 55 v) 54 55 false).run Tryz.prog w = .ok v w := by kernel_rfl
theorem given_next {w : World} {A : Option Addr} {n c : Nat} {l : List UInt8} (hr : Rd w w.heap.size 1 A n (Lib.byteCells l)) (hn : n ≤ 1000000) :
    Calls Tryz.prog 284 #[.slice A n c] w fun e w' => ∃ t, e = .returned (.iface 432 (.string t)) ∧ IsStr t (right l) ∧ Below w.heap.size w w' := by
  have HR := Lib.hid (Right_any (c := c) hr hn)
  clear hr
  go_enter Tryz.func284, Tryz.ntmps284
  go_wp2_with fail
  refine HR.out.mono ?_
  rintro e W ⟨t, rfl, ht, b⟩
  have HE := Lib.hid (And.intro ht b)
  clear ht b
  go_wp2
  go_ret
  exact ⟨t, rfl, HE.out.1, HE.out.2⟩
theorem right_next {w : World} {t : ByteArray} {l : List UInt8} (ht : IsStr t l) (hl : l.length ≤ 1000000) (hM : M0 w) :
    Calls Tryz.prog 313 #[.string t] w fun e w' => ∃ A c, e = .returned (.iface 440 (.slice A (toksL l).length c)) ∧ (toksL l).length ≤ c ∧ ToksP w' (fun b => w.heap.size ≤ b ∧ b < w'.heap.size) A (toksL l).length (toksL l) ∧ Below w.heap.size w w' := by
  have HR := Lib.hid (Tokens_any ht hl hM)
  clear ht hl hM
  go_enter Tryz.func313, Tryz.ntmps313
  go_wp2_with fail
  refine HR.out.mono ?_
  rintro e W ⟨A, c, rfl, h1, h2, b⟩
  have HE := Lib.hid (And.intro h1 (And.intro h2 b))
  clear h1 h2 b
  go_wp2
  go_ret
  exact ⟨A, c, rfl, HE.out⟩
theorem tokens_next {w : World} {A : Option Addr} {c : Nat} {l : List K.Tk} (hT : K.Toks w w.heap.size A l.length l) (hc : l.length ≤ c) (hn : l.length ≤ 2900) (hok : ∀ t ∈ l, K.TkOk t) :
    Calls Tryz.prog 348 #[.slice A l.length c] w fun e w' => ∃ A' c' D, e = .returned (.iface 55 (.slice A' (K.treeL l).length c')) ∧ (K.treeL l).length ≤ c' ∧ NodesP w' D A' (K.treeL l).length (K.treeL l) ∧ Below w.heap.size w w' ∧
      ∀ q, D q → w.heap.size ≤ q ∧ q < w'.heap.size ∧ ∃ arr e, w'.heap[q]? = some (.cells arr e (0, 0)) := by
  have HR := Lib.hid (K.Tree_any hT hc hn hok)
  clear hT hok
  go_enter Tryz.func348, Tryz.ntmps348
  go_wp2_with fail
  refine HR.out.mono ?_
  rintro e W ⟨A', c', D, rfl, h1, h2⟩
  have HE := Lib.hid (And.intro h1 h2)
  clear h1 h2
  go_wp2
  go_ret
  exact ⟨A', c', D, rfl, HE.out⟩
def BytesRet (w : World) (l : List UInt8) (e : Ending) (w' : World) : Prop := ∃ A c, e = .returned (.slice A (K.treeL ((toksL (right l)).map kTk)).length c) ∧ (K.treeL ((toksL (right l)).map kTk)).length ≤ c ∧ Nodes w' w'.heap.size A (K.treeL ((toksL (right l)).map kTk)).length (K.treeL ((toksL (right l)).map kTk)) ∧ Below w.heap.size w w'
set_option maxHeartbeats 4000000 in
set_option maxRecDepth 100000 in
theorem run_any {w : World} {A : Option Addr} {n c : Nat} {l : List UInt8} (hr : Rd w w.heap.size 1 A n (Lib.byteCells l)) (hn : n ≤ 1000000) (hM : M0 w) (hl : (right l).length ≤ 1000000) (hts : (toksL (right l)).length ≤ 2900) (hok : ∀ t ∈ (toksL (right l)).map kTk, K.TkOk t) :
    Calls Tryz.prog 14 #[.iface 36 (.slice A n c)] w (BytesRet w l) := by
  have HR := Lib.hid hr
  have HM := Lib.hid hM
  have HOK := Lib.hid hok
  have HTS := Lib.hid hts
  clear hr hM hok hts
  have ag := as_g
  have ar := as_r
  have at' := as_t
  have an := as_n
  have an' := as_n'
  have mg := mth_g
  have mr := mth_r
  have mt := mth_t
  go_enter Tryz.func14, Tryz.ntmps14
  go_wp2_with fail
  refine wp_loop_rounds 4 ?_
  rw [rounds_succ]
  go_wp2_with fail
  refine (given_next HR.out hn).mono ?_
  rintro e W1 ⟨t, rfl, ht, b1⟩
  have HN := Lib.hid (right_next ht hl (HM.out.below b1))
  clear ht
  go_wp2_with fail
  rw [rounds_succ]
  go_wp2_with fail
  refine HN.out.mono ?_
  rintro e W2 ⟨A2, c2, rfl, h2, h3, b2⟩
  have hlm : ((toksL (right l)).map kTk).length = (toksL (right l)).length := List.length_map _
  have HK := Lib.hid (tokens_next (w := W2) (c := c2) (l := (toksL (right l)).map kTk) (A := A2) (by rw [hlm]; exact (toks_k h3).more fun b hb => hb.2) (by rw [hlm]; exact h2) (by rw [hlm]; exact HTS.out) HOK.out)
  rw [hlm] at HK
  have HB := Lib.hid (bt b1 b2)
  clear hlm h3 h2 b1 b2
  go_wp2_with fail
  rw [rounds_succ]
  go_wp2_with fail
  refine HK.out.mono ?_
  rintro e W3 ⟨A3, c3, D, rfl, h5, h6, b3, h7⟩
  have HE := Lib.hid (show BytesRet w l (.returned (.slice A3 (K.treeL ((toksL (right l)).map kTk)).length c3)) W3 from ⟨A3, c3, rfl, h5, NodesP.lt h6 (fun b hb => (h7 b hb).2.1), bt HB.out b3⟩)
  clear h5 h6 b3 h7
  go_wp2_with fail
  rw [rounds_succ]
  go_wp2
  go_ret
  exact HE.out
theorem BytesTree_any {w : World} {A : Option Addr} {n c : Nat} {l : List UInt8} (hr : Rd w w.heap.size 1 A n (Lib.byteCells l)) (hn : n ≤ 1000000) (hM : M0 w) (hl : (right l).length ≤ 1000000) (hts : (toksL (right l)).length ≤ 2900) (hok : ∀ t ∈ (toksL (right l)).map kTk, K.TkOk t) :
    Calls Tryz.prog 8 #[.slice A n c] w (BytesRet w l) := by
  have HR := Lib.hid (run_any (c := c) hr hn hM hl hts hok)
  clear hr hM hok hts
  go_enter Tryz.func8, Tryz.ntmps8
  go_wp2_with fail
  refine HR.out.mono ?_
  rintro e W1 h
  obtain ⟨A3, c3, rfl, h5, h6, b3⟩ := h
  have HE := Lib.hid (show BytesRet w l (.returned (.slice A3 (K.treeL ((toksL (right l)).map kTk)).length c3)) W1 from ⟨A3, c3, rfl, h5, h6, b3⟩)
  clear h5 h6 b3
  go_wp2
  go_ret
  exact HE.out
end Go.Proofs.YtnkelhmjkmeilaaGreatDoor
end
section
namespace Go.Proofs.YtnkelhmjkmeilaaGreatDoor
structure NmOk (nm : List UInt8) : Prop where
  named : namedL nm = true
  void : voidL nm = false
  raw : rawL nm = false
  few : nm.length ≤ 8
  shut : K.closesL nm nm = false
theorem closes_no {nm : List UInt8} (h1 : nm ≠ [112]) (h2 : nm ≠ [108, 105]) (h3 : nm ≠ [100, 100]) (h4 : nm ≠ [100, 116]) (h5 : nm ≠ [111, 112, 116, 105, 111, 110]) (h6 : nm ≠ [116, 100]) (h7 : nm ≠ [116, 114]) : K.closesL nm nm = false := by
  have hf : (K.closersT.find? fun p => p.1 == nm) = none := by
    rw [List.find?_eq_none]
    intro p hp
    simp only [K.closersT, List.mem_cons, List.not_mem_nil, or_false] at hp
    rcases hp with rfl | rfl | rfl | rfl | rfl | rfl | rfl
    · simpa using h1.symm
    · simpa using h2.symm
    · simpa using h4.symm
    · simpa using h3.symm
    · simpa using h5.symm
    · simpa using h6.symm
    · simpa using h7.symm
  simp [K.closesL, K.closesRow, hf]
theorem b_ok : NmOk [98] := ⟨by decide, by decide, by decide, by decide, closes_no (by decide) (by decide) (by decide) (by decide) (by decide) (by decide) (by decide)⟩
def backL (x : List UInt8) : List UInt8 := if x = [] then [] else dec (right (esc false x))
theorem backL_len {x : List UInt8} (h : x.length ≤ 20) : (backL x).length ≤ 2000 := by
  unfold backL
  split
  · simp
  · have h1 := dec_length (right (esc false x))
    have h2 := right_length (esc false x)
    have h3 := (esc_length false x).2
    omega
theorem deep_map (nm x : List UInt8) (n : Nat) : (List.replicate n (⟨1, nm, [], []⟩ : Tk) ++ deepIn x).map kTk = List.replicate n ⟨1, nm, [], []⟩ ++ (if backL x = [] then [] else [⟨3, [], [], backL x⟩]) := by
  rw [List.map_append, List.map_replicate]
  congr 1
  unfold deepIn backL
  by_cases hx : x = []
  · rw [if_pos hx, if_pos hx, if_pos rfl]; rfl
  · have hne : esc false x ≠ [] := by
      intro e
      have h1 := (esc_length false x).1
      rw [e] at h1
      exact hx (List.eq_nil_of_length_eq_zero (by simpa using h1))
    rw [if_neg hx, if_neg hx, if_neg (dec_nz (right_ne hne))]
    rfl
theorem inner_text (y : List UInt8) : (textL (K.innerN y)).length ≤ 6 * y.length := by
  unfold K.innerN
  split
  · show (0 : Nat) ≤ _; omega
  · have h1 := (esc_length false y).2
    show (textL [Nd.mk 2 [] [] y []]).length ≤ _
    unfold textL
    simp only [kidsL, oneL, List.append_nil]
    simpa using h1
section
theorem top_toks {nm : List UInt8} (h : NmOk nm) {x : List UInt8} {n : Nat} : (toksL (right (begsL nm n ++ esc false x))).map kTk = List.replicate n ⟨1, nm, [], []⟩ ++ (if backL x = [] then [] else [⟨3, [], [], backL x⟩]) := by
  rw [deep_toks h.named h.raw, deep_map]
theorem top_tree {nm : List UInt8} (h : NmOk nm) {x : List UInt8} {n : Nat} : K.treeL ((toksL (right (begsL nm n ++ esc false x))).map kTk) = K.nestL nm n (K.innerN (backL x)) := by
  rw [top_toks h]
  exact K.tree_deep h.void h.shut n (backL x)
theorem top_count {nm : List UInt8} (h : NmOk nm) {x : List UInt8} {n : Nat} : (toksL (right (begsL nm n ++ esc false x))).length ≤ n + 1 := by
  rw [deep_toks h.named h.raw, List.length_append, List.length_replicate]
  unfold deepIn
  split <;> simp
theorem top_ok {nm : List UInt8} (h : NmOk nm) {x : List UInt8} (hx : x.length ≤ 20) {n : Nat} : ∀ t ∈ (toksL (right (begsL nm n ++ esc false x))).map kTk, K.TkOk t := by
  rw [top_toks h]
  intro t ht
  rcases List.mem_append.1 ht with ht | ht
  · have := List.eq_of_mem_replicate ht
    subst this
    exact ⟨⟨by show (-9223372036854775808 : Int) ≤ 1; decide, by show (1 : Int) ≤ 9223372036854775807; decide⟩, by have := h.few; show nm.length ≤ 1000; omega, by show (0 : Nat) ≤ 2000; omega, by show (0 : Nat) ≤ 1000; omega⟩
  · split at ht
    · cases ht
    · rw [List.mem_singleton] at ht
      subst ht
      exact ⟨⟨by show (-9223372036854775808 : Int) ≤ 3; decide, by show (3 : Int) ≤ 9223372036854775807; decide⟩, by show (0 : Nat) ≤ 1000; omega, backL_len hx, by show (0 : Nat) ≤ 1000; omega⟩
theorem top_right {nm : List UInt8} (h : NmOk nm) {x : List UInt8} (hx : x.length ≤ 20) {n : Nat} (hn : n ≤ 2000) : (right (begsL nm n ++ esc false x)).length ≤ 1000000 ∧ (begsL nm n ++ esc false x).length ≤ 1000000 := by
  have h1 := right_length (begsL nm n ++ esc false x)
  have h2 := begsL_len nm n
  have h3 := (esc_length false x).2
  have h4 := h.few
  have h5 : n * (nm.length + 2) ≤ 2000 * 10 := Nat.mul_le_mul hn (by omega)
  rw [List.length_append] at *
  omega
theorem nest_text {nm : List UInt8} (h : NmOk nm) (l : List Nd) : ∀ n, ∃ R, textL (K.nestL nm n l) = begsL nm n ++ R ∧ (textL (K.nestL nm n l)).length = n * (2 * nm.length + 5) + (textL l).length
  | 0 => ⟨textL l, rfl, by rw [Nat.zero_mul, Nat.zero_add]; rfl⟩
  | n + 1 => by
    obtain ⟨R, h1, h2⟩ := nest_text h l n
    have e : textL (K.nestL nm (n + 1) l) = begT nm ++ (textL (K.nestL nm n l) ++ clL (K.elemN (nm, []) (K.nestL nm n l))) := by
      unfold textL
      rw [K.nestL, kidsL, oneL_elem _ (K.elemN (nm, []) (K.nestL nm n l)) rfl (by exact h.void), kidsL, List.append_nil]
      simp only [K.elemN, opL, Nd.kind, Nd.name, Nd.attrs, Nd.kids, h.raw, List.flatMap_nil, List.nil_append, if_true]
      simp [begT]
    refine ⟨R ++ clL (K.elemN (nm, []) (K.nestL nm n l)), ?_, ?_⟩
    · rw [e, h1, begsL_front]; simp
    · rw [e, List.length_append, List.length_append, h2]
      have hc : (clL (K.elemN (nm, []) (K.nestL nm n l))).length = nm.length + 3 := by
        unfold clL
        rw [if_pos ⟨rfl, h.void⟩]
        simp [K.elemN, Nd.name]
      rw [hc, Nat.add_mul]
      simp [begT]; omega
theorem top_text {nm : List UInt8} (h : NmOk nm) {x : List UInt8} (hx : x.length ≤ 20) {n : Nat} (hn : n ≤ 2000) : ∃ R, textL (K.nestL nm n (K.innerN (backL x))) = begsL nm n ++ R ∧ (textL (K.nestL nm n (K.innerN (backL x)))).length ≤ 1000000 := by
  obtain ⟨R, h1, h2⟩ := nest_text h (K.innerN (backL x)) n
  refine ⟨R, h1, ?_⟩
  have h3 := inner_text (backL x)
  have h4 := backL_len hx
  have h5 : n * (2 * nm.length + 5) ≤ 2000 * 21 := Nat.mul_le_mul hn (by have := h.few; omega)
  omega
end
end Go.Proofs.YtnkelhmjkmeilaaGreatDoor
end
section
namespace Go.Proofs.YtnkelhmjkmeilaaGreatDoor
open Go.RowKit
theorem beg_cat (nm : List UInt8) : (⟨#[60]⟩ : ByteArray) ++ ⟨nm.toArray⟩ ++ ⟨#[62]⟩ = ⟨(begT nm).toArray⟩ :=
  (s_append (s_append (IsStr.mk [60]) (IsStr.mk nm)) (IsStr.mk [62])).to
theorem txt_cut (tx : List UInt8) : (⟨tx.toArray⟩ : ByteArray).extract 0 20 = ⟨(tx.take 20).toArray⟩ :=
  (s_part (IsStr.mk tx) 0 20).to
theorem out_cut (a R : List UInt8) : (⟨(a ++ R).toArray⟩ : ByteArray).extract 0 a.length = ⟨a.toArray⟩ := by
  have h := (s_part (IsStr.mk (a ++ R)) 0 a.length).to
  simpa using h
theorem one_text (W : World) (tx : List UInt8) :
    Nodes (W.alloc (.cells #[.int .i64 2, .string ⟨#[]⟩, .slice none 0 0, .string ⟨tx.toArray⟩, .slice none 0 0] 28)) (W.alloc (.cells #[.int .i64 2, .string ⟨#[]⟩, .slice none 0 0, .string ⟨tx.toArray⟩, .slice none 0 0] 28)).heap.size (some ⟨W.heap.size, 0, none⟩) 1 [.mk 2 [] [] tx []] := by
  have hNI : NIs (W.alloc (.cells #[.int .i64 2, .string ⟨#[]⟩, .slice none 0 0, .string ⟨tx.toArray⟩, .slice none 0 0] 28)) (W.alloc (.cells #[.int .i64 2, .string ⟨#[]⟩, .slice none 0 0, .string ⟨tx.toArray⟩, .slice none 0 0] 28)).heap.size (.mk 2 [] [] tx []) [.int .i64 2, sv [], .slice none 0 0, sv tx, .slice none 0 0] :=
    NIs.mk' (Nat.le_refl 0) (Rd.nil _ _ _ _) (Nat.le_refl 0) (Nodes.nil _ _ _)
  exact ⟨_, ⟨rfl, fun _ => ⟨_, rfl, by simp, fun j u hu => World.news_of_block (heap_alloc_new W _) j u (by simpa [sv] using hu)⟩⟩, NsIs.single hNI⟩
theorem conv_str {w : World} {base : Nat} {A : Option Addr} {n c : Nat} {l : List UInt8} (h : K.ByR w base (.slice A n c) l) {W : World} (hb : Below w.heap.size w W) :
    ∀ W', Below W.heap.size W W' → (convert 23 9 (.slice A n c)).run Tryz.prog W' = .ok (.string ⟨l.toArray⟩) W' := fun _W' hb' =>
  run_bytes_str (h.rd.below (hb.trans (hb'.mono hb.size))) _ 5 _ c Tryz.underlying23 Tryz.underlying5 Tryz.underlying9
end Go.Proofs.YtnkelhmjkmeilaaGreatDoor
end
section
namespace Go.Proofs.YtnkelhmjkmeilaaGreatDoor
open Go.RowKit
def topNs (nm : List UInt8) (n : Nat) (x : List UInt8) : List Nd := K.nestL nm n (K.innerN (backL x))
def TopText (nm : List UInt8) (n : Nat) (out : ByteArray) : Prop := ∃ R, out = ⟨(begsL nm n ++ R).toArray⟩
theorem TopText.len {nm : List UInt8} {n : Nat} {out : ByteArray} (h : TopText nm n out) : ((begsL nm n).length : Int) ≤ (out.size : Int) := by
  obtain ⟨R, rfl⟩ := h
  show ((begsL nm n).length : Int) ≤ ((begsL nm n ++ R).toArray.size : Int)
  rw [List.size_toArray, List.length_append]
  omega
theorem TopText.cut {nm : List UInt8} {n : Nat} {out : ByteArray} (h : TopText nm n out) : out.extract 0 (begsL nm n).length = ⟨(begsL nm n).toArray⟩ := by
  obtain ⟨R, rfl⟩ := h
  exact out_cut _ R
section
variable {nm x : List UInt8} {n : Nat} {w : World} {A : Option Addr} {m c : Nat}
theorem Bytes_top (h : NmOk nm) (hx : x.length ≤ 20) (hn : n ≤ 2000) (hr : Rd w w.heap.size 1 A m (Lib.byteCells (begsL nm n ++ esc false x))) (hm : m ≤ 1000000) (hM : M0 w) :
    Calls Tryz.prog 8 #[.slice A m c] w fun e w' => ∃ A c, e = .returned (.slice A (topNs nm n x).length c) ∧ (topNs nm n x).length ≤ c ∧ Nodes w' w'.heap.size A (topNs nm n x).length (topNs nm n x) ∧ Below w.heap.size w w' := by
  refine (BytesTree_any (l := begsL nm n ++ esc false x) hr hm hM (top_right h hx hn).1 (by have := top_count (x := x) (n := n) h; omega) (top_ok h hx)).mono ?_
  rintro e W hB
  unfold BytesRet at hB
  rw [top_tree h] at hB
  exact hB
theorem Text_top (h : NmOk nm) (hx : x.length ≤ 20) (hn : n ≤ 2000) (hN : Nodes w w.heap.size A (topNs nm n x).length (topNs nm n x)) (hc : (topNs nm n x).length ≤ c) :
    Calls Tryz.prog 9 #[.slice A (topNs nm n x).length c] w fun e w' => ∃ out, e = .returned (.string out) ∧ TopText nm n out ∧ Below w.heap.size w w' := by
  obtain ⟨R, h1, h2⟩ := top_text h hx hn
  refine (WText_any hN hc h2).mono ?_
  rintro e W ⟨rfl, b⟩
  exact ⟨_, rfl, ⟨R, congrArg (fun z : List UInt8 => (⟨z.toArray⟩ : ByteArray)) h1⟩, b⟩
theorem Deep_top (hn : n ≤ 2000) (hN : Nodes w w.heap.size A (topNs nm n x).length (topNs nm n x)) (hc : (topNs nm n x).length ≤ c) :
    Calls Tryz.prog 10 #[.slice A (topNs nm n x).length c] w fun e w' => e = .returned (.int .i64 (n : Int)) ∧ Below w.heap.size w w' := by
  refine K.Deep_nest nm (K.innerN (backL x)) n ?_ (by omega) hN hc
  unfold K.innerN
  split
  · exact .inl rfl
  · exact .inr ⟨_, rfl⟩
end
end Go.Proofs.YtnkelhmjkmeilaaGreatDoor
end
