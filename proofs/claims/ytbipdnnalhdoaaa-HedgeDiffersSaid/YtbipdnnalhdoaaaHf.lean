/- The finder in memory: its block, its queue, its two maps, its rows; each block is known by what it is for. -/
import Derived.Test.YtbipdnnalhdoaaaHe
import Derived.Test.YtbipdnnalhdoaaaMap
import Derived.Test.YtbipdnnalhdoaaaBase
import Derived.DeepKeys5
namespace Go.Proofs.Ytbipdnnalhdoaaa
open Go.RowKit Go.Maps Go.WideMaps
attribute [local go_sem ↓] Go.wp_at_zero Go.wp_at_succ

def plV (a b : Nat) : Value := .agg #[.int .i64 (a : Int), .int .i64 (b : Int)]
theorem placeK : Keyed Try.prog 70 := Keyed.of_law (deep_law_gate laidOut (of_decide_eq_true (by kernel_rfl)) (of_decide_eq_true (by kernel_rfl)) (by kernel_rfl) (by kernel_rfl))
theorem intK : Keyed Try.prog 3 := int_keyed Try.underlying3
theorem int_wf {a : Nat} (h : a ≤ 1000000000000) : (Lit.int .i64 (a : Int)).wf = true := by
  have h1 : IntKind.i64.min = -9223372036854775808 := by decide
  have h2 : IntKind.i64.max = 9223372036854775807 := by decide
  rw [Lit.wf, Bool.and_eq_true, decide_eq_true_eq, decide_eq_true_eq, h1, h2]
  omega
theorem keyPl {a b : Nat} (ha : a ≤ 1000000000000) (hb : b ≤ 1000000000000) : ∃ l, keyOf Try.prog 70 (plV a b) = some l := by
  have wa := int_wf ha
  have wb := int_wf hb
  have hk : Try.prog.keyType 70 = true := by kernel_rfl
  have hc : Try.prog.cellsOf 70 = 2 := by kernel_rfl
  have hi : Try.prog.cellsOf 3 = 1 := by kernel_rfl
  obtain ⟨m, hm⟩ : ∃ m, Try.prog.types.size + 1 = m + 2 := ⟨Try.prog.types.size - 1, by
    have : 0 < Try.prog.types.size := of_decide_eq_true (by kernel_rfl)
    omega⟩
  unfold keyOf
  simp only [Try.underlying70]
  rw [if_pos (by simp [hk, plV, Value.formed, Try.underlying70, hc]), hm]
  refine ⟨.string (keyBytes [.int .i64 (a : Int), .int .i64 (b : Int)]), ?_⟩
  unfold Program.keyLits
  simp only [Try.underlying70, plV, Value.cells]
  rw [if_pos ⟨by rw [hc]; rfl, by simp⟩]
  simp [Program.keyLits, Try.underlying3, wa, wb, hi]
theorem keyIn {a : Nat} (ha : a ≤ 1000000000000) : keyOf Try.prog 3 (.int .i64 (a : Int)) = some (.int .i64 (a : Int)) := keyOf_int_mk Try.underlying3 (int_wf ha)

/-- the place that tells a tree's state first -/
structure Src where
  num : Nat
  st : Nat
  cost : Nat
/-- a finder -/
structure FS where
  q : List Stp
  mar : Nat → Nat → Option (Stp × Bool)
  met : List (List Nat)
  trees : List Nat
  fnd : Nat → Option Src
def mkV (x : Stp × Bool) : Value := .agg #[.int .i64 (x.1.num : Int), .int .i64 (x.1.st : Int), .int .i64 (x.1.cost : Int), .int .i64 x.1.frm, .int .i64 x.1.tree, .bool x.2]
def mkZ : Value := .agg #[.int .i64 0, .int .i64 0, .int .i64 0, .int .i64 0, .int .i64 0, .bool false]
def srV (x : Src) : Value := .agg #[.int .i64 (x.num : Int), .int .i64 (x.st : Int), .int .i64 (x.cost : Int)]
def srZ : Value := .agg #[.int .i64 0, .int .i64 0, .int .i64 0]
theorem zMk (w : World) : (zeroValue 96).run Try.prog w = .ok mkZ w := by kernel_rfl
theorem zSr (w : World) : (zeroValue 76).run Try.prog w = .ok srZ w := by kernel_rfl
/-- what the maps hold -/
def mkF (m : Nat → Nat → Option (Stp × Bool)) : Value → Option Value
  | .agg cs => match cs.toList with
    | [.int .i64 a, .int .i64 b] => if 0 ≤ a ∧ 0 ≤ b then (m a.toNat b.toNat).map mkV else none
    | _ => none
  | _ => none
def fnF (m : Nat → Option Src) : Value → Option Value
  | .int .i64 a => if 0 ≤ a then (m a.toNat).map srV else none
  | _ => none
theorem mkF_at (m : Nat → Nat → Option (Stp × Bool)) (a b : Nat) : mkF m (plV a b) = (m a b).map mkV := by
  simp [mkF, plV]
theorem fnF_at (m : Nat → Option Src) (a : Nat) : fnF m (.int .i64 (a : Int)) = (m a).map srV := by simp [fnF]
def upM (m : Nat → Nat → Option (Stp × Bool)) (a b : Nat) (x : Stp × Bool) : Nat → Nat → Option (Stp × Bool) := fun c d => if c = a ∧ d = b then some x else m c d
def upF (m : Nat → Option Src) (a : Nat) (x : Src) : Nat → Option Src := fun c => if c = a then some x else m c
theorem mkF_up (m : Nat → Nat → Option (Stp × Bool)) (a b : Nat) (x : Stp × Bool) : mkF (upM m a b x) (plV a b) = some (mkV x) := by rw [mkF_at, upM, if_pos ⟨rfl, rfl⟩]; rfl
theorem mkF_ne (m : Nat → Nat → Option (Stp × Bool)) (a b : Nat) (x : Stp × Bool) : ∀ v, v ≠ plV a b → mkF (upM m a b x) v = mkF m v := by
  intro v hv
  unfold mkF
  split
  · rename_i cs
    split
    · rename_i c d hcs
      split
      · rename_i h0
        have : ¬ (c.toNat = a ∧ d.toNat = b) := by
          rintro ⟨e1, e2⟩
          apply hv
          have : cs = #[.int .i64 c, .int .i64 d] := by
            rw [← Array.toList_inj]; simp [hcs]
          rw [this, plV, ← e1, ← e2, Int.toNat_of_nonneg h0.1, Int.toNat_of_nonneg h0.2]
        rw [upM, if_neg this]
      · rfl
    · rfl
  · rfl
theorem fnF_up (m : Nat → Option Src) (a : Nat) (x : Src) : fnF (upF m a x) (.int .i64 (a : Int)) = some (srV x) := by rw [fnF_at, upF, if_pos rfl]; rfl
theorem fnF_ne (m : Nat → Option Src) (a : Nat) (x : Src) : ∀ v, v ≠ .int .i64 (a : Int) → fnF (upF m a x) v = fnF m v := by
  intro v hv
  unfold fnF
  split
  · rename_i c
    split
    · rename_i h0
      have : ¬ c.toNat = a := by
        intro e1
        apply hv
        rw [← e1, Int.toNat_of_nonneg h0]
      rw [upF, if_neg this]
    · rfl
  · rfl

/-- what a block is for -/
inductive FR where
  | fin | que | mkm | fnm | metr | met (i : Nat) | tre
/-- the rows of numbers -/
def FR.rowy : FR → Bool
  | .metr => true | .met _ => true | .tre => true
  | _ => false
abbrev FOwn := Nat → Option FR
def FOwn.put (o : FOwn) (v : Value) (r : FR) : FOwn := fun q => match o q with | some x => some x | none => if v.ownBlock = some q then some r else none
theorem FOwn.put_le (o : FOwn) (v : Value) (r x : FR) (q : Nat) (h : o q = some x) : o.put v r q = some x := by simp only [FOwn.put, h]
theorem FOwn.put_is {o : FOwn} {v : Value} {r : FR} {q : Nat} (hq : v.ownBlock = some q) (h : o q = none ∨ o q = some r) : o.put v r q = some r := by
  rcases h with h | h <;> simp [FOwn.put, h, hq]
theorem FOwn.put_inv {o : FOwn} {v : Value} {r x : FR} {q : Nat} (h : o.put v r q = some x) : o q = some x ∨ (v.ownBlock = some q ∧ x = r) := by
  unfold FOwn.put at h
  split at h
  · rename_i y hy; exact .inl (by rw [hy]; exact h)
  · split at h
    · rename_i hv; injection h with h; exact .inr ⟨hv, h.symm⟩
    · cases h
def nats (l : List Nat) : List Value := l.map fun (i : Nat) => Value.int .i64 (i : Int)
theorem nats_length (l : List Nat) : (nats l).length = l.length := by simp [nats]
theorem nats_at {l : List Nat} {k : Nat} (hk : k < l.length) : (nats l)[k]? = some (.int .i64 (l[k] : Int)) := by simp [nats, hk]
theorem nats_append (l m : List Nat) : nats (l ++ m) = nats l ++ nats m := by simp [nats]

/-- THE FINDER IN BLOCK fb, its maps in blocks mm and mf; mv: its machine -/
structure FIs (w : World) (own : FOwn) (base fb mm mf : Nat) (mv : Value) (f : FS) : Prop where
  lt : ∀ q r, own q = some r → base ≤ q ∧ q < w.heap.size
  fin : own fb = some .fin
  mkm : own mm = some .mkm
  fnm : own mf = some .fnm
  blk : ∃ A c AM cM AT cT MV, w.heap[fb]? = some (.cells #[mv, .slice A f.q.length c, .map (some mm), .slice AM f.met.length cM, .slice AT f.trees.length cT, .map (some mf)] 85 (0, 0)) ∧
    (w.ownsRow base 72 5 (.slice A f.q.length c) f.q.length (stCs f.q) ∧ ∀ q, (Value.slice A f.q.length c).ownBlock = some q → own q = some .que) ∧
    (w.ownsRow base 24 1 (.slice AM f.met.length cM) f.met.length MV ∧ ∀ q, (Value.slice AM f.met.length cM).ownBlock = some q → own q = some .metr) ∧
    (∀ i (hi : i < f.met.length), ∃ A' c', MV[i]? = some (.slice A' f.met[i].length c') ∧ w.ownsRow base 3 1 (.slice A' f.met[i].length c') f.met[i].length (nats f.met[i]) ∧ ∀ q, (Value.slice A' f.met[i].length c').ownBlock = some q → own q = some (.met i)) ∧
    (w.ownsRow base 3 1 (.slice AT f.trees.length cT) f.trees.length (nats f.trees) ∧ ∀ q, (Value.slice AT f.trees.length cT).ownBlock = some q → own q = some .tre)
  mks : ∃ n, MapIs Try.prog 70 w mm n (mkF f.mar)
  fns : ∃ n, MapIs Try.prog 3 w mf n (fnF f.fnd)
theorem fown_block {w w' : World} {base z n : Nat} {e : TypeId} {v : Value} {xs : List Value} (h : w.ownsRow base e z v n xs) (hk : ∀ q, v.ownBlock = some q → w'.heap[q]? = w.heap[q]?) : w'.ownsRow base e z v n xs := by
  refine ⟨h.1, ?_⟩
  rcases h.2 with h0 | ⟨g, cap, cur, rfl, hb, hh, rest⟩
  · exact .inl h0
  · exact .inr ⟨g, cap, cur, rfl, hb, (hk g rfl).trans hh, rest⟩
section
variable {w w' : World} {own own' : FOwn} {base fb mm mf : Nat} {mv : Value} {f : FS}
theorem FIs.keep (h : FIs w own base fb mm mf mv f) (hs : w.heap.size ≤ w'.heap.size) (hk : ∀ q r, own q = some r → w'.heap[q]? = w.heap[q]?) : FIs w' own base fb mm mf mv f := by
  obtain ⟨h1, h2, h3, h4, ⟨A, c, AM, cM, AT, cT, MV, b1, ⟨b2, b3⟩, ⟨b4, b5⟩, b6, ⟨b7, b8⟩⟩, ⟨n, h6⟩, ⟨n', h7⟩⟩ := h
  refine ⟨fun q r hq => ⟨(h1 q r hq).1, Nat.lt_of_lt_of_le (h1 q r hq).2 hs⟩, h2, h3, h4, ⟨A, c, AM, cM, AT, cT, MV, (hk fb _ h2).trans b1, ⟨fown_block b2 fun q hq => hk q _ (b3 q hq), b3⟩, ⟨fown_block b4 fun q hq => hk q _ (b5 q hq), b5⟩, fun i hi => ?_, ⟨fown_block b7 fun q hq => hk q _ (b8 q hq), b8⟩⟩, ⟨n, h6.block (hk mm _ h3)⟩, ⟨n', h7.block (hk mf _ h4)⟩⟩
  obtain ⟨A', c', e1, e2, e3⟩ := b6 i hi
  exact ⟨A', c', e1, fown_block e2 fun q hq => hk q _ (e3 q hq), e3⟩
theorem FIs.below {B : Nat} (h : FIs w own base fb mm mf mv f) (hb : Below B w w') (hB : w.heap.size ≤ B) : FIs w' own base fb mm mf mv f :=
  h.keep hb.size fun q r hq => hb.block q (by have := (h.lt q r hq).2; omega)
/-- what is not the finder's stays as it was -/
def FFrm (own : FOwn) (w w' : World) : Prop := ∀ q, own q = none → q < w.heap.size → w'.heap[q]? = w.heap[q]?
end
end Go.Proofs.Ytbipdnnalhdoaaa
