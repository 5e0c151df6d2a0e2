/- The package write: what hands over a text (begin, end), whatever it is handed to. -/
import Derived.Test.YtjobaciajfoneaaWr1
import Derived.Test.YtjobaciajfoneaaRw6
namespace Go.Proofs.Ytjobaciajfoneaa
open Go.RowKit

/-- THE WORD: the function K, with a text and a pointer to block b, puts the text behind what is told so far (Inv); all below B stays. -/
structure Put (K : FuncId) (B b : Nat) (Inv : List UInt8 → World → Prop) : Prop where
  call : ∀ (l m : List UInt8) (w : World), Inv l w → l.length + m.length ≤ 100000000 → Calls Try.prog K #[.string ⟨m.toArray⟩, .pointer (some ⟨b, 0, none⟩)] w fun e w' =>
    e = .returned (.tuple #[]) ∧ Inv (l ++ m) w' ∧ Below B w w' ∧ Oth b w w'
  enter : ∀ (args : Array Value) (w : World), Sem.run Try.prog (callFunc K args) w = .ok (.enter K args) w
  keep : ∀ (l : List UInt8) (w w' : World), Inv l w → Lib.OthersKept 59 none w w' → Inv l w'

theorem oth_of_below {e : TypeId} {b : Option Nat} {w w' : World} (h : Below w.heap.size w w') : Lib.OthersKept e b w w' :=
  fun k o hk _ _ => by rw [h.block k (Array.getElem?_eq_some_iff.1 hk).1]; exact hk

/-- a pointer to a node -/
def NodeAt (w : World) (B : Nat) (a : Addr) (n : Nd) : Prop := a.block < B ∧ ∃ A1 n1 c1 A2 n2 c2, 
    w.cell? a = some (.int .i64 n.kind) ∧ w.cell? (a.add 1) = some (sv n.name) ∧ w.cell? (a.add 2) = some (.slice A1 n1 c1) ∧
    w.cell? (a.add 3) = some (sv n.text) ∧ w.cell? (a.add 4) = some (.slice A2 n2 c2) ∧ n1 ≤ c1 ∧ Atrs w B A1 n1 n.attrs ∧ n2 ≤ c2 ∧ Nodes w B A2 n2 n.kids
theorem add0 (a : Addr) : a.add 0 = a := by unfold Addr.add; rw [if_pos rfl]
theorem Nodes.node {w : World} {B n : Nat} {A : Option Addr} {l : List Nd} (h : Nodes w B A n l) {k : Nat} (hk : k < n) (hk' : k < l.length) : ∃ a, A = some a ∧ NodeAt w B (a.add (k * 5)) l[k] := by
  obtain ⟨a, A1, n1, c1, A2, n2, c2, e, hb, h0, h1, h2, h3, h4, h5⟩ := h.at_ hk hk'
  refine ⟨a, e, by rw [block_add]; exact hb, A1, n1, c1, A2, n2, c2, h0, ?_, ?_, ?_, ?_, h5⟩ <;> rw [add_add] <;> assumption
theorem NodeAt.keep {w w' : World} {B : Nat} {a : Addr} {n : Nd} (h : NodeAt w B a n) (hb : Below B w w') : NodeAt w' B a n := by
  obtain ⟨h0, A1, n1, c1, A2, n2, c2, g0, g1, g2, g3, g4, g5, g6, g7, g8⟩ := h
  have hc : ∀ j, w'.cell? (a.add j) = w.cell? (a.add j) := fun j => hb.cell (by rw [block_add]; exact h0)
  exact ⟨h0, A1, n1, c1, A2, n2, c2, by rw [hb.cell h0]; exact g0, by rw [hc]; exact g1, by rw [hc]; exact g2, by rw [hc]; exact g3, by rw [hc]; exact g4, g5, g6.below hb, g7, g8.below hb⟩

section
variable {w w' : World} {B : Nat} {a : Addr} {n : Nd}
theorem NodeAt.k (h : NodeAt w B a n) : w.cell? a = some (.int .i64 n.kind) := by
  obtain ⟨h0, A1, n1, c1, A2, n2, c2, g0, _⟩ := h
  exact g0
theorem NodeAt.nm (h : NodeAt w B a n) : w.cell? ⟨a.block, a.off + 1, none⟩ = some (.string ⟨n.name.toArray⟩) := by
  obtain ⟨h0, A1, n1, c1, A2, n2, c2, g0, g1, _⟩ := h
  rw [add_pos a 1 (by omega)] at g1
  exact g1
theorem NodeAt.ats (h : NodeAt w B a n) : ∃ A c, w.cell? ⟨a.block, a.off + 2, none⟩ = some (.slice A n.attrs.length c) ∧ n.attrs.length ≤ c ∧ Atrs w B A n.attrs.length n.attrs := by
  obtain ⟨h0, A1, n1, c1, A2, n2, c2, g0, g1, g2, g3, g4, g5, g6, _⟩ := h
  rw [add_pos a 2 (by omega)] at g2
  have := g6.len
  subst this
  exact ⟨_, _, g2, g5, g6⟩
theorem NodeAt.tx (h : NodeAt w B a n) : w.cell? ⟨a.block, a.off + 3, none⟩ = some (.string ⟨n.text.toArray⟩) := by
  obtain ⟨h0, A1, n1, c1, A2, n2, c2, g0, g1, g2, g3, _⟩ := h
  rw [add_pos a 3 (by omega)] at g3
  exact g3
theorem NodeAt.kd (h : NodeAt w B a n) : ∃ A c, w.cell? ⟨a.block, a.off + 4, none⟩ = some (.slice A n.kids.length c) ∧ n.kids.length ≤ c ∧ Nodes w B A n.kids.length n.kids := by
  obtain ⟨h0, A1, n1, c1, A2, n2, c2, g0, g1, g2, g3, g4, g5, g6, g7, g8⟩ := h
  rw [add_pos a 4 (by omega)] at g4
  have := g8.len
  subst this
  exact ⟨_, _, g4, g7, g8⟩
end

set_option maxHeartbeats 1000000 in
set_option maxRecDepth 100000 in
/-- write.end -/
theorem end_any {K : FuncId} {B b : Nat} {Inv : List UInt8 → World → Prop} (HP : Put K B b Inv) {w : World} {a : Addr} {n : Nd} {L : List UInt8} (hn : NodeAt w B a n) (hi : Inv L w) (hl : L.length + (clL n).length ≤ 100000000) :
    Calls Try.prog 23 #[.pointer (some a), .func (.func K) #[] #[.pointer (some ⟨b, 0, none⟩)]] w fun e w' => e = .returned (.tuple #[]) ∧ Inv (L ++ clL n) w' ∧ Below B w w' ∧ Oth b w w' := by
  have g0 := hn.k
  have g1 := hn.nm
  have hE := HP.enter
  by_cases hk : n.kind = 1
  · have q1 : (n.kind != 1) = false := by simp [hk]
    cases hv : voidL n.name
    · have hcl : clL n = [60, 47] ++ (n.name ++ [62]) := by simp [clL, hk, hv]
      have HV := Lib.hid hv
      rw [hcl] at hl ⊢
      simp only [List.length_append, List.length_cons, List.length_nil] at hl
      clear hcl hv
      go_enter Try.func23, Try.ntmps23
      go_wp2_with fail
      refine (dVoid_any n.name _).mono ?_
      rintro e W1 ⟨rfl, rfl⟩
      rw [HV.out]
      go_wp2_with fail
      refine (HP.call _ _ _ hi (by simp; omega)).mono ?_
      rintro e W2 ⟨rfl, i2, b2, k2⟩
      have n2 := (hn.keep b2).nm
      go_wp2_with fail
      refine (HP.call _ _ _ i2 (by simp; omega)).mono ?_
      rintro e W3 ⟨rfl, i3, b3, k3⟩
      go_wp2_with fail
      refine (HP.call _ _ _ i3 (by simp; omega)).mono ?_
      rintro e W4 ⟨rfl, i4, b4, k4⟩
      go_wp2
      go_end0
      exact ⟨rfl, by simpa using i4, (b2.trans b3).trans b4, (k2.trans k3).trans k4⟩
    · have hcl : clL n = [] := by simp [clL, hv]
      have HV := Lib.hid hv
      rw [hcl, List.append_nil]
      clear hcl hv
      go_enter Try.func23, Try.ntmps23
      go_wp2_with fail
      refine (dVoid_any n.name _).mono ?_
      rintro e W1 ⟨rfl, rfl⟩
      rw [HV.out]
      go_wp2
      refine bodyPost_ret (results_none rfl _ _ _) rfl ?_
      exact ⟨rfl, hi, Below.refl _ _, Lib.OthersKept.refl _ _ _⟩
  · have q1 : (n.kind != 1) = true := by simp [hk]
    have hcl : clL n = [] := by simp [clL, hk]
    rw [hcl, List.append_nil]
    clear hcl hk
    go_enter Try.func23, Try.ntmps23
    go_wp2
    refine bodyPost_ret (results_none rfl _ _ _) rfl ?_
    exact ⟨rfl, hi, Below.refl _ _, Lib.OthersKept.refl _ _ _⟩
end Go.Proofs.Ytjobaciajfoneaa
