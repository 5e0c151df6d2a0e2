/- strainerlaw05: few, lives. -/
import Derived.Test.YtninjljkdbemkaaTwa
import Derived.Test.YtninjljkdbemkaaWg2
namespace Go.Proofs.Ytninjljkdbemkaa
open Go.RowKit

theorem lives5_toks : toksL [60, 65, 32, 98, 61, 49, 32, 67, 62, 120, 60, 47, 97, 32, 62] = [⟨1, [97], [([98], [49]), ([99], [])], []⟩, ⟨3, [], [], [120]⟩, ⟨2, [97], [], []⟩] := by kernel_rfl

/-- the token at k: its four cells -/
theorem Toks.at_ {w : World} {B n : Nat} {A : Option Addr} {l : List Tk} (h : Toks w B A n l) {k : Nat} (hk : k < n) (hk' : k < l.length) : ∃ a A1 c1, A = some a ∧ a.block < B ∧
    w.cell? (a.add (k * 4)) = some (.int .i64 l[k].kind) ∧ w.cell? ⟨(a.add (k * 4)).block, (a.add (k * 4)).off + 1, none⟩ = some (.string ⟨l[k].name.toArray⟩) ∧
    w.cell? ⟨(a.add (k * 4)).block, (a.add (k * 4)).off + 2, none⟩ = some (.slice A1 l[k].attrs.length c1) ∧ w.cell? ⟨(a.add (k * 4)).block, (a.add (k * 4)).off + 3, none⟩ = some (.string ⟨l[k].text.toArray⟩) ∧
    l[k].attrs.length ≤ c1 ∧ Atrs w B A1 l[k].attrs.length l[k].attrs := by
  obtain ⟨xs, h1, h2⟩ := h
  have hl := h2.len
  obtain ⟨a, rfl, hb, hc⟩ := h1.2 (by intro e; subst e; simp at hl; omega)
  obtain ⟨cs, h3, h4⟩ := TsIs.at_ h2 hk'
  generalize l[k] = t at h3 ⊢
  obtain ⟨A1, c1, rfl, g1, g2⟩ := h3
  have e : ∀ j, 0 < j → (⟨(a.add (k * 4)).block, (a.add (k * 4)).off + j, none⟩ : Addr) = a.add (k * 4 + j) := fun j hj => by
    rw [← add_add, add_pos (a.add (k * 4)) j hj]
  refine ⟨a, A1, c1, rfl, hb, hc _ _ (by rw [← Nat.add_zero (k * 4), h4 0 (by omega)]; rfl), ?_, ?_, ?_, g1, g2⟩
  · rw [e 1 (by omega)]; exact hc _ _ (by rw [h4 1 (by omega)]; rfl)
  · rw [e 2 (by omega)]; exact hc _ _ (by rw [h4 2 (by omega)]; rfl)
  · rw [e 3 (by omega)]; exact hc _ _ (by rw [h4 3 (by omega)]; rfl)

set_option maxHeartbeats 1000000 in
set_option maxRecDepth 100000 in
/-- strainerlaw05.few: the first 300 bytes, made right -/
theorem few05 {w : World} {n c : Nat} {A : Option Addr} {l : List UInt8} (hr : Rd w w.heap.size 1 A n (Lib.byteCells l)) (hnc : n ≤ c) (hc : c ≤ maxLen) :
    Calls Try.prog 14 #[.slice A n c] w fun e w' => e = .returned (.string ⟨(right (l.take 300)).toArray⟩) ∧ Below w.heap.size w w' := by
  unfold maxLen at hc
  obtain ⟨n1, hn1, hr1, hcase1⟩ := cut_to 300 hr
  clear hr
  generalize l.take 300 = k at *
  rcases hcase1 with ⟨h1, rfl⟩ | ⟨h1, rfl, a, rfl⟩
  all_goals
    go_enter Try.func14, Try.ntmps14
    go_wp2_with fail
    refine (RefRight_any hr1 (by omega) (by unfold maxLen; omega) (by omega)).mono ?_
    rintro e W1 ⟨s, rfl, hs, b1⟩
    obtain rfl := hs.to
    go_wp2
    go_ret
    exact ⟨rfl, b1⟩

set_option maxHeartbeats 1000000 in
set_option maxRecDepth 100000 in
/-- strainerlaw05.lives -/
theorem lives05 {w : World} (hM : M0 w) : Calls Try.prog 13 #[] w fun e w' => e = .returned (.bool true) ∧ Below w.heap.size w w' := by
  have HT := Lib.hid lives5_toks
  have HM := Lib.hid hM
  clear hM
  go_enter Try.func13, Try.ntmps13
  go_wp2_with fail
  refine (Tokens_any (l := [60, 65, 32, 98, 61, 49, 32, 67, 62, 120, 60, 47, 97, 32, 62]) (IsStr.mk _) (by decide) HM.out).mono ?_
  rintro e W1 ⟨A, c, rfl, hc, hP, b1⟩
  have hP1 : Toks W1 W1.heap.size A _ _ := ToksP.lt hP (fun b hb => hb.2)
  rw [HT.out] at hc hP1 ⊢
  clear hP
  obtain ⟨a, A0, c0, rfl, hab, k0, n0, ats0, t0, hc0, hat0⟩ := hP1.at_ (k := 0) (by decide) (by decide)
  obtain ⟨a', A1, c1, ea, _, k1, n1, ats1, t1, hc1, hat1⟩ := hP1.at_ (k := 1) (by decide) (by decide)
  injection ea with ea
  subst ea
  obtain ⟨a', A2, c2, ea, _, k2, n2, ats2, t2, hc2, hat2⟩ := hP1.at_ (k := 2) (by decide) (by decide)
  injection ea with ea
  subst ea
  simp only [List.getElem_cons_zero, List.getElem_cons_succ] at k0 n0 ats0 t0 k1 n1 ats1 t1 k2 n2 ats2 t2 hat0
  obtain ⟨ad, rfl, had, p0, p1⟩ := hat0.at_ (k := 0) (by decide) (by decide)
  obtain ⟨ad', ea, _, p2, p3⟩ := hat0.at_ (k := 1) (by decide) (by decide)
  injection ea with ea
  subst ea
  rw [Nat.zero_mul, add0] at k0 n0 ats0 t0 p0
  rw [Nat.zero_mul, Nat.zero_add, add_pos _ _ (by decide)] at p1
  rw [add_pos _ _ (by decide)] at k1 n1 ats1 t1 k2 n2 ats2 t2 p2 p3
  simp only [Nat.reduceMul, Nat.reduceAdd] at k1 n1 ats1 t1 k2 n2 ats2 t2 p2 p3
  simp only [List.getElem_cons_zero, List.getElem_cons_succ, sv] at p0 p1 p2 p3
  have hq1 : ∀ w, Sem.run Try.prog (binOp BinOp.eql 40 (.agg #[.string ⟨#[98]⟩, .string ⟨#[49]⟩]) (.agg #[.string ⟨#[98]⟩, .string ⟨#[49]⟩])) w = .ok (.bool true) w := fun w => by kernel_rfl
  have hq2 : ∀ w, Sem.run Try.prog (binOp BinOp.eql 40 (.agg #[.string ⟨#[99]⟩, .string ⟨#[]⟩]) (.agg #[.string ⟨#[99]⟩, .string ⟨#[]⟩])) w = .ok (.bool true) w := fun w => by kernel_rfl
  clear hat0 hat1 hat2 hP1
  go_wp2
  go_ret
  exact ⟨rfl, b1⟩
end Go.Proofs.Ytninjljkdbemkaa
