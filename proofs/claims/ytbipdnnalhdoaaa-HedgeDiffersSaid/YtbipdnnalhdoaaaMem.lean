/- Words for memory, of no program: a string known by its bytes, a slice that reads as a list, rows of the call's own. No condition. -/
import Derived.WalkKit
import Derived.WalkSpells
import Derived.WalkLawsBesides
import Derived.Lib.Hide
import Derived.Lib.OthersKept
import Derived.Lib.RuneBytes
import Derived.Lib.UnsafeStr
import Derived.Laws.OwnMore
import Derived.Laws.BytesArg
import Derived.Laws.IdiomStrings
import Derived.Laws.Cover4
import Derived.Maps.AppendAt
import Derived.Deep.AppendLies
import Derived.Deep.Draws
import Derived.Deep.QuietTactic
import Derived.BigQuiet
import Derived.RegionTactic
import Derived.OwnWalk
namespace Go.Proofs.Ytbipdnnalhdoaaa
open Go.RowKit

theorem ret_bool {a b : Bool} (h : a = b) : Ending.returned (.bool a) = .returned (.bool b) := by rw [h]
theorem ret_int {k : IntKind} {a b : Int} (h : a = b) : Ending.returned (.int k a) = .returned (.int k b) := by rw [h]
theorem ret_str {a b : ByteArray} (h : a = b) : Ending.returned (.string a) = .returned (.string b) := by rw [h]
/-- t's bytes are l -/
def IsStr (t : ByteArray) (l : List UInt8) : Prop := t.data.toList = l
theorem IsStr.mk (l : List UInt8) : IsStr ⟨l.toArray⟩ l := rfl
theorem IsStr.of (t : ByteArray) : IsStr t t.data.toList := rfl
theorem IsStr.to {t : ByteArray} {l : List UInt8} (h : IsStr t l) : t = ⟨l.toArray⟩ := by
  unfold IsStr at h
  subst h
  cases t; simp
theorem IsStr.eq {t u : ByteArray} {l m : List UInt8} (h : IsStr t l) (h' : IsStr u m) (e : l = m) : t = u := by rw [h.to, h'.to, e]
theorem IsStr.size {t : ByteArray} {l : List UInt8} (h : IsStr t l) : t.size = l.length := by rw [h.to]; rfl
theorem IsStr.out {t : ByteArray} {l : List UInt8} (h : IsStr t l) : t.data.toList = l := h

theorem block_add (a : Addr) (n : Nat) : (a.add n).block = a.block := by unfold Addr.add; split <;> rfl
theorem add_pos (a : Addr) (n : Nat) (h : 0 < n) : a.add n = ⟨a.block, a.off + n, none⟩ := by unfold Addr.add; rw [if_neg (by omega)]
theorem add_add (a : Addr) (i j : Nat) : (a.add i).add j = a.add (i + j) := by
  unfold Addr.add
  by_cases hi : i = 0 <;> by_cases hj : j = 0 <;> simp [hi, hj, Nat.add_assoc]

/-- THE SLICE VALUE '.slice A n c' READS AS THE CELLS xs (z cells an element), all of it below block B; nil and empty ones too. -/
def Rd (w : World) (B z : Nat) (A : Option Addr) (n : Nat) (xs : List Value) : Prop :=
  xs.length = n * z ∧ (xs ≠ [] → ∃ a, A = some a ∧ a.block < B ∧ ∀ j u, xs[j]? = some u → w.cell? (a.add j) = some u)

section
variable {w w' : World} {B B' z n : Nat} {A : Option Addr} {xs : List Value}
theorem Rd.nil (w : World) (B z : Nat) (A : Option Addr) : Rd w B z A 0 [] := ⟨by simp, fun h => absurd rfl h⟩
theorem Rd.len (h : Rd w B 1 A n xs) : xs.length = n := by rw [h.1, Nat.mul_one]
theorem Rd.at_ {k : Nat} (h : Rd w B 1 A n xs) (hk : k < n) : ∃ a u, A = some a ∧ a.block < B ∧ xs[k]? = some u ∧ w.cell? (a.add k) = some u := by
  have hl : k < xs.length := by rw [h.len]; exact hk
  obtain ⟨a, e, hb, hc⟩ := h.2 (by intro e; rw [e] at hl; simp at hl)
  exact ⟨a, xs[k], e, hb, List.getElem?_eq_getElem hl, hc k _ (List.getElem?_eq_getElem hl)⟩
theorem Rd.keep (h : Rd w B z A n xs) (hk : ∀ p : Addr, p.block < B → w'.cell? p = w.cell? p) : Rd w' B z A n xs :=
  ⟨h.1, fun hn => by
    obtain ⟨a, e, hb, hc⟩ := h.2 hn
    exact ⟨a, e, hb, fun j u hu => (hk _ (by rw [block_add]; exact hb)).trans (hc j u hu)⟩⟩
theorem Rd.more (h : Rd w B z A n xs) (hB : B ≤ B') : Rd w B' z A n xs :=
  ⟨h.1, fun hn => by
    obtain ⟨a, e, hb, hc⟩ := h.2 hn
    exact ⟨a, e, by omega, hc⟩⟩
theorem Rd.below (h : Rd w B z A n xs) (hb : Below B w w') : Rd w' B z A n xs := h.keep fun _ hp => hb.cell hp
theorem Rd.on (h : Rd w w.heap.size z A n xs) (hb : Below w.heap.size w w') : Rd w' w'.heap.size z A n xs := (h.below hb).more hb.size
theorem Rd.drew (h : Rd w B z A n xs) : Rd w.drew B z A n xs := h
theorem Rd.drewN (h : Rd w B z A n xs) (k : Nat) : Rd (w.drewN k) B z A n xs := h
theorem Rd.alloc (h : Rd w B z A n xs) (hB : B ≤ w.heap.size) (o : Obj) : Rd (w.alloc o) B z A n xs := h.keep fun p hp => World.cell?_alloc_lt w o p (by omega)
theorem Rd.setCell (h : Rd w B z A n xs) {p : Addr} (hB : B ≤ p.block) (u : Value) : Rd (w.setCell p u) B z A n xs :=
  h.keep fun q hq => World.cell?_setCell_other w p q u (fun e => by subst e; omega)
theorem Rd.grown (h : Rd w B z A n xs) {row : Option Nat} (hg : w.grownBy w' row) (hB : B ≤ w.heap.size) (hr : ∀ g, row = some g → B ≤ g) : Rd w' B z A n xs :=
  h.keep fun p hp => World.cell?_of_block (hg.block p.block (by omega) (fun e => by have := hr _ e.symm; omega))
/-- a cut from k on -/
theorem Rd.cut (h : Rd w B z A n xs) {k cap : Nat} (hk : k ≤ n) (hc : n ≤ cap) :
    Rd w B z (if cap = k then A else A.map (·.add (k * z))) (n - k) (xs.drop (k * z)) := by
  refine ⟨by rw [List.length_drop, h.1, Nat.sub_mul], fun hn => ?_⟩
  have hx : xs ≠ [] := fun e => hn (by rw [e, List.drop_nil])
  have hlt : k * z < xs.length := by
    rcases Nat.lt_or_ge (k * z) xs.length with h' | h'
    · exact h'
    · exact absurd (List.drop_eq_nil_of_le h') hn
  have hkn : k < n := by
    rw [h.1] at hlt
    exact Nat.lt_of_mul_lt_mul_right hlt
  obtain ⟨a, rfl, hb, hcell⟩ := h.2 hx
  rw [if_neg (by omega)]
  refine ⟨a.add (k * z), rfl, by rw [block_add]; exact hb, fun j u hu => ?_⟩
  rw [add_add]
  exact hcell _ u (by rw [← hu, List.getElem?_drop])
/-- the first k -/
theorem Rd.take (h : Rd w B z A n xs) {k : Nat} (hk : k ≤ n) : Rd w B z A k (xs.take (k * z)) := by
  refine ⟨?_, fun hn => ?_⟩
  · rw [List.length_take, h.1]
    exact Nat.min_eq_left (Nat.mul_le_mul_right z hk)
  · obtain ⟨a, e, hb, hcell⟩ := h.2 (fun e => hn (by rw [e, List.take_nil]))
    refine ⟨a, e, hb, fun j u hu => hcell j u ?_⟩
    rw [List.getElem?_take] at hu
    split at hu
    · exact hu
    · cases hu
/-- a row of the call's own reads as what it holds -/
theorem Rd.of_own {base c : Nat} {e : TypeId} (h : w.ownsRow base e z (.slice A n c) n xs) : Rd w w.heap.size z A n xs := by
  refine ⟨h.1, fun hn => ?_⟩
  have hp : 0 < n := by
    rcases Nat.eq_zero_or_pos n with h0 | h0
    · have := h.1; rw [h0, Nat.zero_mul] at this; exact absurd (List.eq_nil_of_length_eq_zero this) hn
    · exact h0
  obtain ⟨g, cap, hv, _, hlt⟩ := h.form hp
  have hA : A = some ⟨g, 0, none⟩ := by injection hv
  subst hA
  exact ⟨_, rfl, hlt, h.cells (g := g) rfl⟩
theorem own_shape {v : Value} {base : Nat} {e : TypeId} (h : w.ownsRow base e z v n xs) : ∃ A c, v = .slice A n c ∧ n ≤ c := by
  rcases h.2 with ⟨rfl, rfl⟩ | ⟨g, cap, cur, rfl, _, _, hnc, _⟩
  · exact ⟨none, 0, rfl, Nat.le_refl _⟩
  · exact ⟨_, cap, rfl, hnc⟩
end

section
variable {P : Program} {w : World} {B n : Nat} {A : Option Addr}
theorem bytes_of_cells (l : List UInt8) : strOfNums (l.map fun b => (b.toNat : Int)) = ⟨l.toArray⟩ := by
  unfold strOfNums
  rw [List.map_map]
  have : ((fun n : Int => UInt8.ofNat n.toNat) ∘ fun b : UInt8 => (b.toNat : Int)) = id := by funext b; simp
  rw [this, List.map_id]
/-- 'string(b)' -/
theorem run_bytes_str {l : List UInt8} (h : Rd w B 1 A n (Lib.byteCells l)) (src e dst : TypeId) (c : Nat) (hs : P.underlying src = some (.slice e)) (he : P.underlying e = some (.int .u8)) (hd : P.underlying dst = some .string) :
    (convert src dst (.slice A n c)).run P w = .ok (.string ⟨l.toArray⟩) w := by
  have hl : l.length = n := by rw [← h.len, Lib.byteCells_length]
  rcases A with _ | a
  · rw [run_convert_bytes_nil w src e hs he n c dst hd]
    have : l = [] := by
      rcases l with _ | ⟨x, l⟩
      · rfl
      · obtain ⟨a, e, _⟩ := h.2 (by simp [Lib.byteCells]); cases e
    subst this
    rfl
  · have hl2 : (loadCells a n).run P w = .ok ((l.map fun b => (b.toNat : Int)).map (Value.int .u8)).toArray w := by
      have := run_loadCells_list (P := P) w a (Lib.byteCells l) (fun j v hj => by
        obtain ⟨a', e, _, hc⟩ := h.2 (by intro e; rw [e] at hj; simp at hj)
        injection e with e
        subst e
        exact hc j v hj)
      rw [Lib.byteCells_length, hl] at this
      rw [this, List.map_map]
      rfl
    rw [run_convert_bytes_string w src dst e _ n c hs he hd, run_bytesToString w _ n c _ hl2, foldl_push_bytes]
    have := bytes_of_cells l
    unfold strOfNums at this
    rw [← this, show ByteArray.empty.data = #[] from rfl, Array.empty_append]
end

theorem encode_eq (r : Int) : Utf8.encode r = ⟨(Lib.encodeRune r).toArray⟩ := by
  unfold Utf8.encode Lib.encodeRune
  by_cases hv : Utf8.valid r = true
  · have hv' : (0 ≤ r ∧ r < 55296) ∨ (57344 ≤ r ∧ r ≤ 1114111) := by simpa [Utf8.valid] using hv
    simp only [hv, if_true]
    by_cases h1 : r ≤ 127
    · rw [if_pos (by omega), Lib.encodeRuneZ_one (by omega) h1]; rfl
    · by_cases h2 : r ≤ 2047
      · rw [if_neg (by omega), if_pos (by omega), Lib.encodeRuneZ_two (by omega) h2]
        simp only [List.map_cons, List.map_nil]
        rw [show (192 + r / 64).toNat = 0xC0 + r.toNat / 64 by omega, show (128 + r % 64).toNat = 0x80 + r.toNat % 64 by omega]
      · by_cases h3 : r ≤ 65535
        · rw [if_neg (by omega), if_neg (by omega), if_pos (by omega), Lib.encodeRuneZ_three (by omega)]
          simp only [List.map_cons, List.map_nil]
          rw [show (224 + r / 4096).toNat = 0xE0 + r.toNat / 4096 by omega, show (128 + r / 64 % 64).toNat = 0x80 + r.toNat / 64 % 64 by omega, show (128 + r % 64).toNat = 0x80 + r.toNat % 64 by omega]
        · rw [if_neg (by omega), if_neg (by omega), if_neg (by omega), Lib.encodeRuneZ_four (by omega) (by omega)]
          simp only [List.map_cons, List.map_nil]
          rw [show (240 + r / 262144).toNat = 0xF0 + r.toNat / 262144 by omega, show (128 + r / 4096 % 64).toNat = 0x80 + r.toNat / 4096 % 64 by omega, show (128 + r / 64 % 64).toNat = 0x80 + r.toNat / 64 % 64 by omega, show (128 + r % 64).toNat = 0x80 + r.toNat % 64 by omega]
  · have hv' : r < 0 ∨ (55296 ≤ r ∧ r ≤ 57343) ∨ 1114111 < r := by
      have : ¬ ((0 ≤ r ∧ r < 55296) ∨ (57344 ≤ r ∧ r ≤ 1114111)) := by simpa [Utf8.valid] using hv
      omega
    rw [Lib.encodeRuneZ_bad hv']
    simp [hv, Utf8.runeError]
theorem runesBytes_eq (l : List Int) : runesBytes l = ⟨(l.flatMap Lib.encodeRune).toArray⟩ := by
  have key : ∀ (l : List Int) (s : List UInt8), l.foldl (fun r n => r ++ Utf8.encode n) (⟨s.toArray⟩ : ByteArray) = ⟨(s ++ l.flatMap Lib.encodeRune).toArray⟩ := by
    intro l
    induction l with
    | nil => intro s; simp
    | cons r l ih =>
      intro s
      rw [List.foldl_cons, encode_eq, show ((⟨s.toArray⟩ : ByteArray) ++ ⟨(Lib.encodeRune r).toArray⟩) = ⟨(s ++ Lib.encodeRune r).toArray⟩ from ?_, ih]
      · simp
      · apply ByteArray.ext
        simp
  have := key l []
  rw [List.nil_append] at this
  exact this
section
variable {P : Program} {w : World} {B n : Nat} {A : Option Addr}
/-- 'string(l)', l a slice of characters -/
theorem run_runes_str {l : List Int} (h : Rd w B 1 A n (l.map (Value.int .i32))) (src e dst : TypeId) (c : Nat) (hs : P.underlying src = some (.slice e)) (he : P.underlying e = some (.int .i32)) (hd : P.underlying dst = some .string) :
    (convert src dst (.slice A n c)).run P w = .ok (.string ⟨(l.flatMap Lib.encodeRune).toArray⟩) w := by
  have hl : l.length = n := by rw [← h.len, List.length_map]
  rcases A with _ | a
  · rw [run_convert_runes_nil w src dst e n c hs he hd]
    have : l = [] := by
      rcases l with _ | ⟨x, l⟩
      · rfl
      · obtain ⟨a, e, _⟩ := h.2 (by simp); cases e
    subst this
    rfl
  · have hl2 : (loadCells a n).run P w = .ok (l.map (Value.int .i32)).toArray w := by
      have := run_loadCells_list (P := P) w a (l.map (Value.int .i32)) (fun j v hj => by
        obtain ⟨a', e, _, hc⟩ := h.2 (by intro e; rw [e] at hj; simp at hj)
        injection e with e
        subst e
        exact hc j v hj)
      rw [List.length_map, hl] at this
      exact this
    rw [run_convert_runes_string w src dst e _ n c hs he hd, run_runesToString w _ n c _ hl2, runesBytes_eq]
end

/-- A slice type's tables: its element type e has 'size' cells and 'bytes' bytes. -/
structure Row (P : Program) (t e : TypeId) (size bytes : Nat) : Prop where
  und : P.underlying t = some (.slice e)
  ex : ∃ (i : TypeInfo) (z : Value), P.info? e = some i ∧ i.zero = some z ∧ i.size = size ∧ i.bytes = bytes ∧ z.cells.size = size
  pos : 0 < size

/-- one call behind the other -/
theorem bt {a b c : World} (h : Below a.heap.size a b) (k : Below b.heap.size b c) : Below a.heap.size a c := h.trans (k.mono h.size)
theorem below_drewN {B : Nat} {a w : World} (h : Below B a w) (n : Nat) : Below B a (w.drewN n) := ⟨h.os, h.tape, h.output, h.size, h.block⟩
theorem own_ge {w : World} {base z n : Nat} {e : TypeId} {v : Value} {xs : List Value} (h : w.ownsRow base e z v n xs) : ∀ k, v.ownBlock = some k → base ≤ k := fun k hk => (h.lt k hk).1

/-- A string's iterator stands where it stood, whatever becomes of a row of cells. -/
theorem iter_grown {w w' : World} {base z n K pos : Nat} {e : TypeId} {v : Value} {xs : List Value} {s : ByteArray} (h : w.ownsRow base e z v n xs) (hg : w.grownBy w' v.ownBlock)
    (hk : w.heap[K]? = some (.stringIter s pos)) : w'.heap[K]? = some (.stringIter s pos) := by
  rw [hg.block K (Array.getElem?_eq_some_iff.1 hk).1 ?_, hk]
  intro e1
  rcases h.2 with ⟨rfl, _⟩ | ⟨g, cap, cur, rfl, _, hh, _⟩
  · simp [Value.ownBlock] at e1
  · have : K = g := by simpa [Value.ownBlock] using e1
    subst this
    rw [hh] at hk
    cases hk
theorem own_iterAt {w : World} {base z n K pos pos' : Nat} {e : TypeId} {v : Value} {xs : List Value} {s : ByteArray} (h : w.ownsRow base e z v n xs)
    (hk : w.heap[K]? = some (.stringIter s pos)) : (w.iterAt K s pos').ownsRow base e z v n xs := by
  refine ⟨h.1, ?_⟩
  rcases h.2 with h0 | ⟨g, cap, cur, rfl, hb, hh, rest⟩
  · exact .inl h0
  · refine .inr ⟨g, cap, cur, rfl, hb, ?_, rest⟩
    rw [Lib.iterAt_other _ _ _ _ _ (by rintro rfl; rw [hh] at hk; cases hk), hh]
theorem own_below {w w' : World} {base z n B : Nat} {e : TypeId} {v : Value} {xs : List Value} (h : w.ownsRow base e z v n xs) (hb : Below B w w') (hB : w.heap.size ≤ B) : w'.ownsRow base e z v n xs := by
  refine ⟨h.1, ?_⟩
  rcases h.2 with h0 | ⟨g, cap, cur, rfl, hb2, hh, rest⟩
  · exact .inl h0
  · refine .inr ⟨g, cap, cur, rfl, hb2, ?_, rest⟩
    have hg : g < w.heap.size := (Array.getElem?_eq_some_iff.1 hh).1
    rw [hb.block g (by omega), hh]

section
variable {P : Program} {w : World} {ops : Array Oper} {rest : List Oper} {o : Oper} {a : Act} {Q : Exit → Act → World → Prop}
/-- 'out = append(out, x)': the new element's cells lie in the newest block. -/
theorem wpList_push (hgd : o.guard = none) (s x : Operand) (t : TypeId) (ho : o.op = .call { callee := .builtin .append, args := #[s, x], argTypes := #[t, t] })
    (base : Nat) {e : TypeId} {size bytes : Nat} (R : Row P t e size bytes) (A : Option Addr) (n c : Nat) (xs : List Value) (hs : a.eval s = .slice A n c) (hown : w.ownsRow base e size (.slice A n c) n xs)
    (cs : List Value) (c1 : Nat) (hx : a.eval x = .slice (some ⟨w.heap.size, 0, none⟩) 1 c1) (hl : cs.length = size) (h1 : ∀ u ∈ cs, u.oneCell' = true)
    (h63 : n + 1 ≤ maxLen) (hbytes : (n + 1) * bytes ≤ 140737488355328) (hbase : base ≤ w.heap.size)
    (h : ∀ A' c' w', n + 1 ≤ c' → w'.ownsRow base e size (.slice A' (n + 1) c') (n + 1) (xs ++ cs) → w.grownBy w' (Value.slice A n c).ownBlock → wpList P ops Q rest (a.put o.dst (.slice A' (n + 1) c')) w') :
    wpList P ops Q (o :: rest) a (w.alloc (.cells cs.toArray e)) := by
  obtain ⟨i, z, hi, hz, hsize, hby, hzs⟩ := R.ex
  have hcell : ∀ j u, cs[j]? = some u → (w.alloc (.cells cs.toArray e)).cell? ((⟨w.heap.size, 0, none⟩ : Addr).add j) = some u := fun j u hu =>
    World.news_of_block (fr := (0, 0)) (heap_alloc_new w _) j u (by simpa using hu)
  refine wpList_append_own _ hgd s x t ho base e i z size bytes R.und hi hz hsize hby hzs R.pos _ n xs hs (hown.alloc _) ⟨w.heap.size, 0, none⟩ 1 c1 cs hx (by simpa using hl) hcell h1 h63 hbytes (by simp; omega) ?_
  intro v' w' h2 h3 _
  obtain ⟨A', c', rfl, hc'⟩ := own_shape h2
  refine h A' c' w' hc' h2 ⟨h3.os, h3.tape, h3.output, Nat.le_trans (by simp) h3.size, fun k hk hne => ?_⟩
  exact (h3.block k (by simp; omega) hne).trans (Below.heap_alloc w _ k hk)
/-- 'out = append(out, ys...)' -/
theorem wpList_spread (hgd : o.guard = none) (s x : Operand) (t : TypeId) (ho : o.op = .call { callee := .builtin .append, args := #[s, x], argTypes := #[t, t] })
    (base : Nat) {e : TypeId} {size bytes : Nat} (R : Row P t e size bytes) (A : Option Addr) (n c : Nat) (xs : List Value) (hs : a.eval s = .slice A n c) (hown : w.ownsRow base e size (.slice A n c) n xs)
    (B : Nat) (Y : Option Addr) (m c1 : Nat) (ys : List Value) (hx : a.eval x = .slice Y m c1) (hr : Rd w B size Y m ys) (h1 : ∀ u ∈ ys, u.oneCell' = true)
    (h63 : n + m ≤ maxLen) (hbytes : (n + m) * bytes ≤ 140737488355328) (hbase : base ≤ w.heap.size)
    (h : ∀ A' c' w', n + m ≤ c' → w'.ownsRow base e size (.slice A' (n + m) c') (n + m) (xs ++ ys) → w.grownBy w' (Value.slice A n c).ownBlock → wpList P ops Q rest (a.put o.dst (.slice A' (n + m) c')) w') :
    wpList P ops Q (o :: rest) a w := by
  obtain ⟨i, z, hi, hz, hsize, hby, hzs⟩ := R.ex
  rcases Y with _ | y
  · have hys : ys = [] := by
      rcases ys with _ | ⟨u, ys⟩
      · rfl
      · obtain ⟨a, e, _⟩ := hr.2 (by simp); cases e
    subst hys
    have hm : m = 0 := by
      have h0 := hr.1
      have hp := R.pos
      rw [List.length_nil] at h0
      rcases Nat.eq_zero_or_pos m with h' | h'
      · exact h'
      · have := Nat.mul_pos h' hp; omega
    subst hm
    have hc : n ≤ c := by
      obtain ⟨A', c', hv, hc⟩ := own_shape hown
      injection hv with _ _ hv
      omega
    have hrun : (Builtin.append_ #[t, t] o.type #[.slice A n c, .slice none 0 c1]).run P w = .ok (.slice A n c) w := by
      rcases hown.2 with ⟨he, rfl⟩ | ⟨g, cap, cur, he, _, _, hnc, _⟩
      · injection he with h1 h2 h3
        subst h1 h3
        simp [Builtin.append_, run_underlying R.und, sizeOf, typeInfo, hi, Builtin.lenOf, Builtin.firstCells]
      · injection he with h1 h2 h3
        subst h1 h3
        simp [Builtin.append_, run_underlying R.und, sizeOf, typeInfo, hi, Builtin.lenOf, Builtin.firstCells, hnc, storeCells]
    refine wpList_plain hgd fun K hK => ?_
    unfold Oper.wp
    simp only [execOp, ho, resolve, invoke, builtin, Sem.run_bind, Sem.run_pure, Result.andThen_ok, List.map_toArray, List.map_cons, List.map_nil, hs, hx, hrun]
    exact hK _ _ (h A c w hc (by simpa using hown) (World.grownBy.refl w _))
  · have hcell : ∀ j u, ys[j]? = some u → w.cell? (y.add j) = some u := fun j u hu => by
      obtain ⟨y', e, _, hc⟩ := hr.2 (by intro e; rw [e] at hu; simp at hu)
      injection e with e
      subst e
      exact hc j u hu
    refine wpList_append_own _ hgd s x t ho base e i z size bytes R.und hi hz hsize hby hzs R.pos _ n xs hs hown y m c1 ys hx hr.1 hcell h1 h63 hbytes hbase ?_
    intro v' w' h2 h3 _
    obtain ⟨A', c', rfl, hc'⟩ := own_shape h2
    exact h A' c' w' hc' h2 h3
end
theorem ints_one (k : IntKind) (l : List Int) : ∀ u ∈ l.map (Value.int k), u.oneCell' = true := by
  intro u hu
  obtain ⟨x, _, rfl⟩ := List.mem_map.1 hu
  rfl
theorem bytes_one (l : List UInt8) : ∀ u ∈ Lib.byteCells l, u.oneCell' = true := by
  intro u hu
  obtain ⟨x, _, rfl⟩ := List.mem_map.1 hu
  rfl
end Go.Proofs.Ytbipdnnalhdoaaa
