/- The walks of the package refs: names, Name, digit, character. -/
import Derived.Test.YtninjljkdbemkaaMap
import Derived.Test.YtninjljkdbemkaaRefs
import Derived.Test.YtninjljkdbemkaaProg
import Derived.KernelRfl
import Derived.WideKeyArgs
import Derived.Maps.OwnOps
namespace Go.Proofs.Ytninjljkdbemkaa
open Go.RowKit Go.Maps Go.WideMaps

/-- a table of names, as a map's function -/
def tabF (tab : List (List UInt8 × Int)) (v : Value) : Option Value :=
  match v with
  | .string s => (tab.find? fun p => p.1 == s.data.toList).map fun p => .int .i32 p.2
  | _ => none
theorem tabF_nil : tabF [] = fun _ => none := by
  funext v
  cases v <;> rfl
theorem tabF_new (tab : List (List UInt8 × Int)) (s : ByteArray) (x : Int) (h : (tab.find? fun p => p.1 == s.data.toList) = none) : tabF (tab ++ [(s.data.toList, x)]) (.string s) = some (.int .i32 x) := by
  simp only [tabF, List.find?_append, h]
  simp
theorem tabF_old (tab : List (List UInt8 × Int)) (s : ByteArray) (x : Int) (v : Value) (h : v ≠ .string s) : tabF (tab ++ [(s.data.toList, x)]) v = tabF tab v := by
  cases v with
  | string t =>
    have : s.data.toList ≠ t.data.toList := by
      intro e
      apply h
      have := (IsStr.of s).eq (IsStr.of t) e
      rw [this]
    simp only [tabF, List.find?_append]
    have e2 : ([(s.data.toList, x)].find? fun p => p.1 == t.data.toList) = none := by
      rw [List.find?_cons]
      have : (s.data.toList == t.data.toList) = false := by rw [beq_eq_false_iff_ne]; exact this
      rw [this]; rfl
    rw [e2]
    simp
  | _ => rfl

theorem below_map {b : Nat} {a w w' : World} (h : Below a.heap.size a w) (hg : w.grownBy w' (some b)) (hB : a.heap.size ≤ b) : Below a.heap.size a w' :=
  h.trans ⟨hg.os, hg.tape, hg.output, hg.size, fun k hk => hg.block k (by have := h.size; omega) (fun e => by injection e with e; omega)⟩
theorem keyS : Keyed Try.prog 9 := string_keyed Try.underlying9

theorem wpList_name {P : Program} {w : World} {ops : Array Oper} {rest : List Oper} {o : Oper} {a : Act} {Q : Exit → Act → World → Prop} {b n k e : Nat} {tab : List (List UInt8 × Int)} (hg : o.guard = none) (m x v : Operand) (t : TypeId) (hop : o.op = Op.insert t m x v)
    (K : Keyed P k) (ht : P.underlying t = some (.map k e)) (hk : P.underlying k = some .string) (hm : a.eval m = .map (some b)) (h : MapIs P k w b n (tabF tab)) (s : ByteArray) (c : Int) (hx : a.eval x = .string s) (hv : a.eval v = .int .i32 c)
    (hs : s.size ≤ maxLen) (hnew : (tab.find? fun p => p.1 == s.data.toList) = none)
    (hK : ∀ w', MapIs P k w' b (n + 1) (tabF (tab ++ [(s.data.toList, c)])) → w.grownBy w' (some b) → wpList P ops Q rest (a.put o.dst undef) w') : wpList P ops Q (o :: rest) a w :=
  wpList_mapset hg m x v t (.inr hop) K ht hm h _ _ (.string s.data.toList) hx hv (keyOf_string_mk hk hs) _ (tabF_new tab s c hnew) (fun y hy => tabF_old tab s c y hy) hK

set_option maxHeartbeats 2000000 in
set_option maxRecDepth 100000 in
/-- refs.names: the table of names -/
theorem names_any (w : World) : Calls Try.prog 77 #[] w fun e w' => ∃ b, e = .returned (.map (some b)) ∧ MapIs Try.prog 9 w' b 15 (tabF nameTab) ∧ Below w.heap.size w w' := by
  have hmm := @run_makeMap Try.prog
  go_enter Try.func77, Try.ntmps77
  have m0 : MapIs Try.prog 9 (w.alloc (.map #[] 0)) w.heap.size 0 (tabF []) := tabF_nil ▸ MapIs.made _ _ w
  have b0 : Below w.heap.size w (w.alloc (.map #[] 0)) := (Below.refl _ w).alloc (Nat.le_refl _) _
  go_wp2_with (refine wpList_name rfl _ _ _ _ rfl keyS Try.underlying90 Try.underlying9 rfl m0 _ _ rfl rfl (by decide) rfl ?_; intro w1 m1 g1; replace b0 := below_map b0 g1 (Nat.le_refl _); replace m0 := m1; clear g1 m1)
  go_ret
  exact ⟨_, rfl, m0, b0⟩

/-- refs.Name -/
theorem Name_any {w : World} {s : ByteArray} {l : List UInt8} (hs : IsStr s l) (hl : l.length ≤ 1000000) :
    Calls Try.prog 63 #[.string s] w fun e w' => e = .returned (.tuple #[.int .i32 ((nameOf l).getD 0), .bool (nameOf l).isSome]) ∧ Below w.heap.size w w' := by
  have hsz := hs.size
  have hss : s.size ≤ maxLen := by unfold maxLen; omega
  have hkey : keyOf Try.prog 9 (.string s) = some (.string s.data.toList) := keyOf_string_mk Try.underlying9 hss
  have hz : ∀ w, (zeroValue 21).run Try.prog w = .ok (.int .i32 0) w := fun w => by kernel_rfl
  have htab : tabF nameTab (.string s) = (nameOf l).map (Value.int .i32) := by
    simp only [tabF, nameOf, hs.out, Option.map_map]
    rfl
  have HK := Lib.hid hkey
  have HT := Lib.hid htab
  clear hsz hss hkey htab
  go_enter Try.func63, Try.ntmps63
  go_wp2_with fail
  refine (names_any w).mono ?_
  rintro e W1 ⟨b, rfl, m1, b1⟩
  have hlook := m1.look keyS Try.underlying90 (hz _) HK.out true
  rw [HT.out] at hlook
  cases hn : nameOf l with
  | none =>
    rw [hn] at hlook
    simp only [Option.map_none, if_true] at hlook
    go_wp2
    go_ret2
    exact ⟨by rw [hn]; rfl, b1⟩
  | some r =>
    rw [hn] at hlook
    simp only [Option.map_some, if_true] at hlook
    go_wp2
    go_ret2
    exact ⟨by rw [hn]; rfl, b1⟩
end Go.Proofs.Ytninjljkdbemkaa
