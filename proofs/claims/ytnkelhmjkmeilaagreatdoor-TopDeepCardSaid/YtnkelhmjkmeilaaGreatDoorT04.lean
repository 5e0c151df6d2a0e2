/- strings.Builder at this program: copyCheck, WriteByte, WriteString, WriteRune, String; whatever a builder of the call's own holds, below 2^47 bytes. The walks of the package refs: Decode. Plain law: of a right text what is decoded is right, and what is written. The walks of the package utf and of its reference: each function returns what the plain laws say. The walks of the package utf, further: Right, Is, Text, Fold, Prefix; Same of its reference. The walks of the package utf, further: Fold, Prefix, Text, Right. The walks of the package utf, further: Prefix, Text, Right. Plain laws for the reference of layer 1: what its One computes is the decoding of the first character. No program in sight. The walks of the reference of layer 1, further: Runes, bytes, Text, Right. -/
import Derived.KernelRfl
import Derived.Lib.IndexLaws
import Derived.Shelf.Strings.BuilderRune
import Derived.Test.YtnkelhmjkmeilaaGreatDoorProg
import Derived.Test.YtnkelhmjkmeilaaGreatDoorT01
import Derived.Test.YtnkelhmjkmeilaaGreatDoorT03
section
namespace Go.Proofs.YtnkelhmjkmeilaaGreatDoor
open Go.RowKit
theorem infoBld : (Tryz.prog.info? 39).map (·.size) = some 2 := by kernel_rfl
theorem liesBld : liesAt Tryz.prog Tryz.prog.depth 39 (2 / Tryz.prog.cellsOf 39) 0 39 1 = true := by kernel_rfl
theorem infoU8 : (Tryz.prog.info? 5).map (fun i => (i.zero, i.size, i.bytes)) = some (some (.int .u8 0), 1, 1) := by kernel_rfl
def Bld (B b : Nat) (l : List UInt8) (w : World) : Prop := Lib.IsBuilderF 39 5 B b (Lib.byteCells l) w
def Oth (b : Nat) (w w' : World) : Prop := Lib.OthersKept 5 (some b) w w'
set_option maxHeartbeats 1000000 in
set_option maxRecDepth 100000 in
theorem copyCheck_used (b : Nat) (w : World) (h0 : w.cell? ⟨b, 0, none⟩ = some (.pointer (some ⟨b, 0, none⟩))) :
    Calls Tryz.prog 27 #[.pointer (some ⟨b, 0, none⟩)] w fun e w' => e = .returned (.tuple #[]) ∧ w' = w := by
  obtain ⟨j, hj, _⟩ := Option.map_eq_some_iff.1 infoBld
  go_enter Tryz.func27, Tryz.ntmps27
  go_wp2
  rw [Lib.run_neq_ptr_same w _ Tryz.underlying37 hj]
  go_wp2
  go_end0
  exact ⟨rfl, rfl⟩
set_option maxHeartbeats 1000000 in
set_option maxRecDepth 100000 in
theorem copyCheck_fresh (b : Nat) (w : World) (h0 : w.cell? ⟨b, 0, none⟩ = some (.pointer none)) (hsh : w.shape? b = some (39, 2)) (hfz : w.frozen? ⟨b, 0, none⟩ = false) :
    Calls Tryz.prog 27 #[.pointer (some ⟨b, 0, none⟩)] w fun e w' => e = .returned (.tuple #[]) ∧ w' = w.setCell ⟨b, 0, none⟩ (.pointer (some ⟨b, 0, none⟩)) := by
  obtain ⟨j, hj, hjs⟩ := Option.map_eq_some_iff.1 infoBld
  go_enter Tryz.func27, Tryz.ntmps27
  go_wp2
  rw [Lib.run_to_unsafe w ⟨b, 0, none⟩ Tryz.underlying37 Tryz.underlying80 hj (by rw [hjs]; decide) hsh (Nat.zero_lt_succ 1)]
  simp only [Result.andThen]
  rw [Oper.upon_value]
  go_wp2
  rw [run_callFunc_extern Tryz.func33 (by kernel_rfl) (by kernel_rfl) (by kernel_rfl) (e := Extern.AbiNoEscape.same) (by kernel_rfl)]
  rw [Lib.run_noEscape]
  simp only [Result.andThen]
  rw [Oper.upon_value]
  go_wp2
  rw [Lib.run_from_unsafe w ⟨b, 0, none⟩ Tryz.underlying80 Tryz.underlying37 hj hsh liesBld]
  simp only [Result.andThen]
  rw [Oper.upon_value]
  go_wp2
  go_end0
  exact ⟨rfl, rfl⟩
theorem copyCheck_any (B b : Nat) (bs : List Value) (w : World) (h : Lib.IsBuilderF 39 5 B b bs w) :
    Calls Tryz.prog 27 #[.pointer (some ⟨b, 0, none⟩)] w fun e w' => e = .returned (.tuple #[]) ∧
      (Lib.BuilderAtF 39 5 B b (.pointer (some ⟨b, 0, none⟩)) bs w' ∧ Below B w w' ∧ Oth b w w') := by
  rcases h with h | h
  · refine (copyCheck_fresh b w h.cell0 h.shape h.frozen0).mono ?_
    rintro e w' ⟨rfl, rfl⟩
    exact ⟨rfl, h.used _, (Below.refl B w).setCell (p := ⟨b, 0, none⟩) h.1 _, (Lib.OthersKept.refl _ _ w).setCell ⟨b, 0, none⟩ rfl _⟩
  · refine (copyCheck_used b w h.cell0).mono ?_
    rintro e w' ⟨rfl, rfl⟩
    exact ⟨rfl, h, Below.refl B _, Lib.OthersKept.refl _ _ _⟩
set_option maxHeartbeats 1000000 in
set_option maxRecDepth 100000 in
theorem WriteByte_cells (B b : Nat) (bs : List Value) (c : Int) (w : World) (h : Lib.IsBuilderF 39 5 B b bs w) (hlen : bs.length + 1 ≤ 140737488355328) (hBw : B ≤ w.heap.size) :
    Calls Tryz.prog 32 #[.pointer (some ⟨b, 0, none⟩), .int .u8 c] w fun e w' => e = .returned .nilIface ∧
      (Lib.BuilderAtF 39 5 B b (.pointer (some ⟨b, 0, none⟩)) (bs ++ [.int .u8 c]) w' ∧ Below B w w' ∧ Oth b w w') := by
  obtain ⟨i0, hi, hz0, hz1, hz2⟩ := info_parts infoU8
  go_enter Tryz.func32, Tryz.ntmps32
  go_wp2_with (go_at_call 27; refine (copyCheck_any B b bs _ h).mono ?_)
  rintro e w1 ⟨rfl, h1, hb1, hk1⟩
  obtain ⟨hB, v, hbk, hown, hne⟩ := h1
  have c0 : w1.cell? ⟨b, 0, none⟩ = some (.pointer (some ⟨b, 0, none⟩)) := by rw [Lib.cell_of_heap hbk]; rfl
  have c1 : w1.cell? ⟨b, 1, none⟩ = some v := by rw [Lib.cell_of_heap hbk]; rfl
  go_wp2_with (at_builtin; refine wpList_append_ownF _ rfl _ _ 23 rfl B 5 i0 (.int .u8 0) 1 1 Tryz.underlying23 hi hz0 hz1 hz2 rfl (by decide) _ _ _ rfl (hown.alloc _) ⟨w1.heap.size, 0, none⟩ 1 1 [.int .u8 c] rfl rfl ?c1 ?c2 ?c3 ?c4 ?c5 ?_)
  case c1 =>
    intro j u hj
    match j, hj with
    | 0, hj => simp at hj; subst hj; simp [Addr.add]
  case c2 => intro u hu; simp at hu; subst hu; rfl
  case c3 => unfold maxLen; omega
  case c4 => omega
  case c5 => have := hb1.size; simp; omega
  intro v' w2 hown' hgrow _
  have hlt : b < w1.heap.size := (Array.getElem?_eq_some_iff.1 hbk).1
  have hb2 : w2.heap[b]? = some (.cells #[.pointer (some ⟨b, 0, none⟩), v] 39 (0, 0)) := by
    rw [hgrow.block b (by simp; omega) (fun e => hne e.symm), Lib.alloc_old w1 _ b hlt]
    exact hbk
  have d0 : w2.cell? ⟨b, 0, none⟩ = some (.pointer (some ⟨b, 0, none⟩)) := by rw [Lib.cell_of_heap hb2]; rfl
  have d1 : w2.cell? ⟨b, 1, none⟩ = some v := by rw [Lib.cell_of_heap hb2]; rfl
  have f1 : w2.frozen? ⟨b, 1, none⟩ = false := Lib.frozen_of_heap hb2 1
  obtain ⟨g, cap, rfl⟩ : ∃ g cap, v' = .slice (some ⟨g, 0, none⟩) (bs.length + 1) cap := by
    rcases hown'.2 with ⟨_, h0⟩ | ⟨g, cap, cur, fz, hv, _⟩
    · omega
    · exact ⟨g, cap, hv⟩
  go_wp2
  go_ret
  refine ⟨rfl, ?_, ?_, ((hk1.alloc _).grown hgrow (Lib.ownsRowF_kind (hown.alloc _))).setCell ⟨b, 1, none⟩ rfl _⟩
  · exact Lib.BuilderAtF.put (T := 39) (e := 5) hB hb2 (bs' := bs ++ [.int .u8 c]) (by simpa using hown') (by decide)
  · exact ((hb1.alloc (by have := hb1.size; omega) _).grown hgrow (by have := hb1.size; simp; omega) (fun k hk => (hown.lt k hk).1)).setCell (p := ⟨b, 1, none⟩) hB _
set_option maxHeartbeats 2000000 in
set_option maxRecDepth 100000 in
theorem WriteString_cells (B b : Nat) (bs : List Value) (s : ByteArray) (w : World) (h : Lib.IsBuilderF 39 5 B b bs w) (hlen : bs.length + s.size ≤ 140737488355328) (hBw : B ≤ w.heap.size) :
    Calls Tryz.prog 17 #[.pointer (some ⟨b, 0, none⟩), .string s] w fun e w' => e = .returned (.tuple #[.int .i64 s.size, .nilIface]) ∧
      (Lib.BuilderAtF 39 5 B b (.pointer (some ⟨b, 0, none⟩)) (bs ++ Lib.strCells s) w' ∧ Below B w w' ∧ Oth b w w') := by
  obtain ⟨i0, hi, hz0, hz1, hz2⟩ := info_parts infoU8
  go_enter Tryz.func17, Tryz.ntmps17
  go_wp2_with (go_at_call 27; refine (copyCheck_any B b bs _ h).mono ?_)
  rintro e w1 ⟨rfl, h1, hb1, hk1⟩
  obtain ⟨hB, v, hbk, hown, hne⟩ := h1
  have c0 : w1.cell? ⟨b, 0, none⟩ = some (.pointer (some ⟨b, 0, none⟩)) := by rw [Lib.cell_of_heap hbk]; rfl
  have c1 : w1.cell? ⟨b, 1, none⟩ = some v := by rw [Lib.cell_of_heap hbk]; rfl
  go_wp2_with (at_builtin; refine Lib.wpList_append_own_stringF _ rfl _ _ 23 9 rfl B 5 i0 Tryz.underlying23 Tryz.underlying9 hi hz0 hz1 hz2 _ _ _ rfl hown s rfl ?c3 ?c4 ?c5 ?_)
  case c3 => unfold maxLen; omega
  case c4 => omega
  case c5 => have := hb1.size; omega
  intro v' w2 hown' hgrow _
  have hlt : b < w1.heap.size := (Array.getElem?_eq_some_iff.1 hbk).1
  have hb2 : w2.heap[b]? = some (.cells #[.pointer (some ⟨b, 0, none⟩), v] 39 (0, 0)) := by
    rw [hgrow.block b hlt (fun e => hne e.symm)]
    exact hbk
  have d0 : w2.cell? ⟨b, 0, none⟩ = some (.pointer (some ⟨b, 0, none⟩)) := by rw [Lib.cell_of_heap hb2]; rfl
  have d1 : w2.cell? ⟨b, 1, none⟩ = some v := by rw [Lib.cell_of_heap hb2]; rfl
  have f1 : w2.frozen? ⟨b, 1, none⟩ = false := Lib.frozen_of_heap hb2 1
  obtain ⟨ao, n', cap, rfl⟩ : ∃ ao n' cap, v' = .slice ao n' cap := by
    rcases hown'.2 with ⟨hv, _⟩ | ⟨g, cap, cur, fz, hv, _⟩
    · exact ⟨_, _, _, hv⟩
    · exact ⟨_, _, _, hv⟩
  go_wp2
  go_ret2
  refine ⟨rfl, ?_, ?_, (hk1.grown hgrow (Lib.ownsRowF_kind hown)).setCell ⟨b, 1, none⟩ rfl _⟩
  · exact Lib.BuilderAtF.put (T := 39) (e := 5) hB hb2 (bs' := bs ++ Lib.strCells s) (by simpa [Lib.strCells_length] using hown') (by decide)
  · exact (hb1.grown hgrow (by have := hb1.size; omega) (fun k hk => (hown.lt k hk).1)).setCell (p := ⟨b, 1, none⟩) hB _
set_option maxHeartbeats 2000000 in
set_option maxRecDepth 100000 in
theorem WriteRune_cells (B b : Nat) (bs : List Value) (r : Int) (hr0 : -2147483648 ≤ r) (hr1 : r ≤ 2147483647) (w : World) (h : Lib.IsBuilderF 39 5 B b bs w) (hlen : bs.length + 4 ≤ 140737488355328) (hBw : B ≤ w.heap.size) :
    Calls Tryz.prog 286 #[.pointer (some ⟨b, 0, none⟩), .int .i32 r] w fun e w' => e = .returned (.tuple #[.int .i64 (Lib.runeCells r).length, .nilIface]) ∧
      (Lib.BuilderAtF 39 5 B b (.pointer (some ⟨b, 0, none⟩)) (bs ++ Lib.runeCells r) w' ∧ Below B w w' ∧ Oth b w w') := by
  have hk4 := Lib.runeCells_le r
  go_enter Tryz.func286, Tryz.ntmps286
  go_wp2_with (go_at_call 27; refine (copyCheck_any B b bs _ h).mono ?_)
  rintro e w1 ⟨rfl, h1, hb1, hk1⟩
  obtain ⟨hB, v, hbk, hown, hne⟩ := h1
  obtain ⟨ao, cap, rfl⟩ : ∃ ao cap, v = .slice ao bs.length cap := by
    rcases hown.2 with ⟨hv, h0⟩ | ⟨g, cap, cur, fz, hv, _⟩
    · exact ⟨none, 0, by rw [hv, h0]⟩
    · exact ⟨_, _, hv⟩
  have c0 : w1.cell? ⟨b, 0, none⟩ = some (.pointer (some ⟨b, 0, none⟩)) := by rw [Lib.cell_of_heap hbk]; rfl
  have c1 : w1.cell? ⟨b, 1, none⟩ = some (.slice ao bs.length cap) := by rw [Lib.cell_of_heap hbk]; rfl
  go_wp2_with (go_at_call 287; refine (Tryz.utf8_AppendRune_row B _ bs.length bs r hr0 hr1 _ hown hlen (by have := hb1.size; omega)).mono ?_)
  rintro e w2 ⟨v', rfl, hown', o, hgrow⟩
  have hlt : b < w1.heap.size := (Array.getElem?_eq_some_iff.1 hbk).1
  have hb2 : w2.heap[b]? = some (.cells #[.pointer (some ⟨b, 0, none⟩), .slice ao bs.length cap] 39 (0, 0)) := by
    rw [hgrow.block b (by simp; omega) (fun e => hne e.symm), Lib.alloc_old w1 _ b hlt]
    exact hbk
  have d0 : w2.cell? ⟨b, 0, none⟩ = some (.pointer (some ⟨b, 0, none⟩)) := by rw [Lib.cell_of_heap hb2]; rfl
  have d1 : w2.cell? ⟨b, 1, none⟩ = some (.slice ao bs.length cap) := by rw [Lib.cell_of_heap hb2]; rfl
  have f1 : w2.frozen? ⟨b, 1, none⟩ = false := Lib.frozen_of_heap hb2 1
  obtain ⟨g, cap', rfl⟩ : ∃ g cap', v' = .slice (some ⟨g, 0, none⟩) (bs.length + (Lib.runeCells r).length) cap' := by
    rcases hown'.2 with ⟨_, h0⟩ | ⟨g, cap', cur, fz, hv, _⟩
    · omega
    · exact ⟨g, cap', hv⟩
  go_wp2
  go_ret2
  refine ⟨?_, ?_, ?_, ((hk1.alloc _).grown hgrow (Lib.ownsRowF_kind (hown.alloc _))).setCell ⟨b, 1, none⟩ rfl _⟩
  · have e : ((bs.length : Int) + ((Lib.runeCells r).length : Int) - (bs.length : Int)) = ((Lib.runeCells r).length : Int) := by omega
    simp [e]
  · exact Lib.BuilderAtF.put (T := 39) (e := 5) hB hb2 (bs' := bs ++ Lib.runeCells r) (by simpa using hown') (by decide)
  · exact ((hb1.alloc (by have := hb1.size; omega) _).grown hgrow (by have := hb1.size; simp; omega) (fun k hk => (hown.lt k hk).1)).setCell (p := ⟨b, 1, none⟩) hB _
theorem WriteByte_any {B b : Nat} {l : List UInt8} (c : UInt8) {w : World} (h : Bld B b l w) (hlen : l.length + 1 ≤ 140737488355328) (hBw : B ≤ w.heap.size) :
    Calls Tryz.prog 32 #[.pointer (some ⟨b, 0, none⟩), .int .u8 c.toNat] w fun e w' => e = .returned .nilIface ∧ Bld B b (l ++ [c]) w' ∧ Below B w w' ∧ Oth b w w' := by
  refine (WriteByte_cells B b _ _ w h (by rw [Lib.byteCells_length]; exact hlen) hBw).mono ?_
  rintro e w' ⟨rfl, h1, h2, h3⟩
  refine ⟨rfl, ?_, h2, h3⟩
  unfold Bld
  rw [Lib.byteCells_append]; exact Or.inr h1
theorem WriteString_any {B b : Nat} {l : List UInt8} {s : ByteArray} {m : List UInt8} (hs : IsStr s m) {w : World} (h : Bld B b l w) (hlen : l.length + m.length ≤ 140737488355328) (hBw : B ≤ w.heap.size) :
    Calls Tryz.prog 17 #[.pointer (some ⟨b, 0, none⟩), .string s] w fun e w' => e = .returned (.tuple #[.int .i64 s.size, .nilIface]) ∧ Bld B b (l ++ m) w' ∧ Below B w w' ∧ Oth b w w' := by
  refine (WriteString_cells B b _ _ w h (by rw [Lib.byteCells_length, hs.size]; exact hlen) hBw).mono ?_
  rintro e w' ⟨rfl, h1, h2, h3⟩
  refine ⟨rfl, ?_, h2, h3⟩
  unfold Bld
  rw [Lib.byteCells_append]
  rw [Lib.strCells_eq, hs.out] at h1
  exact Or.inr h1
theorem WriteRune_any {B b : Nat} {l : List UInt8} (r : Int) {w : World} (hr0 : -2147483648 ≤ r) (hr1 : r ≤ 2147483647) (h : Bld B b l w) (hlen : l.length + 4 ≤ 140737488355328) (hBw : B ≤ w.heap.size) :
    Calls Tryz.prog 286 #[.pointer (some ⟨b, 0, none⟩), .int .i32 r] w fun e w' => e = .returned (.tuple #[.int .i64 (Lib.encodeRune r).length, .nilIface]) ∧ Bld B b (l ++ Lib.encodeRune r) w' ∧ Below B w w' ∧ Oth b w w' := by
  refine (WriteRune_cells B b _ r hr0 hr1 w h (by rw [Lib.byteCells_length]; exact hlen) hBw).mono ?_
  rintro e w' ⟨rfl, h1, h2, h3⟩
  refine ⟨by rw [Lib.runeCells_length], ?_, h2, h3⟩
  unfold Bld
  rw [Lib.byteCells_append, Lib.byteCells_encodeRune]; exact Or.inr h1
theorem BString_any {B b : Nat} {l : List UInt8} {w : World} (h : Bld B b l w) (hBw : B ≤ w.heap.size) :
    Calls Tryz.prog 18 #[.pointer (some ⟨b, 0, none⟩)] w fun e w' => ∃ s, e = .returned (.string s) ∧ IsStr s l ∧ Bld B b l w' ∧ Below B w w' ∧ Oth b w w' := by
  refine (Tryz.Builder_String_any_k B b l w h hBw).mono ?_
  rintro e w' ⟨rfl, h1, h2, h3⟩
  exact ⟨_, rfl, IsStr.mk l, h1, h2, h3⟩
theorem Bld.fresh (w : World) : Bld w.heap.size w.heap.size [] (w.alloc (.cells #[.pointer none, .slice none 0 0] 39)) := Lib.IsBuilderF.of (Lib.fresh_isBuilder 39 5 w)
theorem Bld.alloc {B b : Nat} {l : List UInt8} {w : World} (h : Bld B b l w) (o : Obj) : Bld B b l (w.alloc o) := Lib.IsBuilderF.alloc h o
theorem Bld.iterAt {B b k pos : Nat} {s : ByteArray} {l : List UInt8} {w : World} (h : Bld B b l w) (hk : w.heap[k]? = some (.stringIter s pos)) (pos' : Nat) : Bld B b l (w.iterAt k s pos') := Lib.IsBuilderF.iterAt h hk pos'
theorem Oth.iter {b k pos : Nat} {s : ByteArray} {w w' : World} (h : Oth b w w') (hk : w.heap[k]? = some (.stringIter s pos)) (hkb : k ≠ b) : w'.heap[k]? = some (.stringIter s pos) := Lib.OthersKept.iter h hk hkb
end Go.Proofs.YtnkelhmjkmeilaaGreatDoor
end
section
namespace Go.Proofs.YtnkelhmjkmeilaaGreatDoor
open Go.RowKit
theorem Bld.below {B b : Nat} {l : List UInt8} {w w' : World} (h : Bld B b l w) (hb : Below w.heap.size w w') : Bld B b l w' := by
  have lt : ∀ {k o}, w.heap[k]? = some o → w'.heap[k]? = some o := fun {k o} hk => (hb.block k (Array.getElem?_eq_some_iff.1 hk).1).trans hk
  have key : ∀ p, Lib.BuilderAtF 39 5 B b p (Lib.byteCells l) w → Lib.BuilderAtF 39 5 B b p (Lib.byteCells l) w' := by
    rintro p ⟨hB, v, h1, hown, hne⟩
    refine ⟨hB, v, lt h1, ⟨hown.1, ?_⟩, hne⟩
    rcases hown.2 with h0 | ⟨g, cap, cur, fz, hv, e1, e2, e3⟩
    · exact .inl h0
    · exact .inr ⟨g, cap, cur, fz, hv, e1, lt e2, e3⟩
  rcases h with h | h
  · exact .inl (key _ h)
  · exact .inr (key _ h)
theorem numGo_pos (base : Int) (hb : base = 10 ∨ base = 16) (most : Nat) : ∀ (l : List UInt8) (n : Int) (k : Nat) (r : Int) (j : Nat), 0 ≤ n → numGo base most l n k = some (r, j) → 0 ≤ r
  | [], _, _, _, _, _, h => by simp [numGo] at h
  | c :: t, n, k, r, j, h0, h => by
    simp only [numGo] at h
    split at h
    · split at h
      · cases h
      · simp at h; omega
    · split at h
      · cases h
      · rename_i h2 h3
        refine numGo_pos base hb most t _ _ _ _ ?_ h
        have hd : 0 ≤ digitOf (c.toNat : Int) base := by
          have := (not_or.1 h3).1
          omega
        have : 0 ≤ n * base := by rcases hb with rfl | rfl <;> omega
        omega
theorem numRef_bd (l : List UInt8) (f : Nat) (base : Int) (hb : base = 10 ∨ base = 16) (most : Nat) : 0 ≤ (numRef l f base most).1 ∧ (numRef l f base most).1 ≤ 1114111 := by
  unfold numRef
  cases h : numGo base most (l.drop f) 0 0 with
  | none => simp
  | some p =>
    obtain ⟨n, k⟩ := p
    have := numGo_pos base hb most _ _ _ _ _ (Int.le_refl 0) h
    simp only [charOf]
    split <;> omega
theorem nameOf_bd (s : List UInt8) (r : Int) (h : nameOf s = some r) : 0 ≤ r ∧ r ≤ 8364 := by
  unfold nameOf at h
  obtain ⟨p, hp, rfl⟩ := Option.map_eq_some_iff.1 h
  have hm := List.mem_of_find?_eq_some hp
  have ha : ∀ p ∈ nameTab, 0 ≤ p.2 ∧ p.2 ≤ 8364 := by decide
  exact ha p hm
theorem one_bd (l : List UInt8) : 0 ≤ (one l).1 ∧ (one l).1 ≤ 1114111 := by
  unfold one
  split
  · exact numRef_bd _ _ _ (.inr rfl) _
  · split
    · exact numRef_bd _ _ _ (.inl rfl) _
    · split
      · unfold nameRef
        split
        · simp
        · split
          · simp
          · rename_i h; have := nameOf_bd _ _ h; simp only; omega
      · simp
def strLen : Value → Nat
  | .string t => t.size
  | _ => 0
set_option maxHeartbeats 1000000 in
set_option maxRecDepth 100000 in
theorem Decode_any {w : World} {s : ByteArray} {l : List UInt8} (hs : IsStr s l) (hl : l.length ≤ 1000000) :
    Calls Tryz.prog 317 #[.string s] w fun e w' => ∃ t, e = .returned (.string t) ∧ IsStr t (dec l) ∧ Below w.heap.size w w' := by
  have HS := Lib.hid hs
  clear hs
  go_enter Tryz.func317, Tryz.ntmps317
  go_wp2
  go_loopw [0] (fun v wr => ∃ (t : ByteArray) (rest acc : List UInt8), v = .string t ∧ IsStr t rest ∧ Bld w.heap.size w.heap.size acc wr ∧ Below w.heap.size w wr ∧ acc ++ dec rest = dec l ∧ acc.length + 4 * rest.length ≤ 4 * l.length) (fun v _ => strLen v)
  case atStart =>
    exact ⟨s, l, [], rfl, HS.out, Bld.fresh w, (Below.refl _ w).alloc (Nat.le_refl _) _, rfl, by simp⟩
  case round =>
    obtain ⟨t, rest, acc, rfl, ht, hB, hbw, hacc, hlen⟩ := hrel
    have hsz := ht.size
    have hsb : t.size ≤ 1000000 := by omega
    have hww := hbw.size
    have hib : Calls Tryz.prog 53 #[.string t, .int .u8 38] wr fun e w' => e = .returned (.int .i64 (Lib.indexByte rest 38)) ∧ w' = wr := by
      have := Tryz.strings_IndexByte t 38 wr
      rw [ht.out] at this
      exact this
    have HACC := Lib.hid hacc
    have HSZ := Lib.hid hsz
    have HT := Lib.hid ht
    clear hacc hsz ht
    go_wp2_with fail
    refine hib.mono ?_
    rintro e W1 ⟨rfl, rfl⟩
    clear hib
    have hge := Lib.indexByte_ge rest 38
    by_cases hno : Lib.indexByte rest 38 = -1
    · have hpl := Lib.indexByte_none hno
      have hdp : dec rest = rest := by
        have := dec_plain rest [] (fun c hc e => by
          obtain ⟨k, hk⟩ := List.mem_iff_getElem?.1 hc
          exact hpl k (by rw [hk, e]))
        rwa [List.append_nil, dec_nil, List.append_nil] at this
      rw [hno]
      have HE := Lib.hid (show acc ++ rest = dec l by rw [← HACC.out, hdp])
      clear hno hpl hdp hge
      go_wp2_with fail
      refine (WriteString_any HT.out hB (by omega) hww).mono ?_
      rintro e W2 ⟨rfl, h2, b2, k2⟩
      have hww2 := b2.size
      go_wp2_with fail
      refine (BString_any h2 (by omega)).mono ?_
      rintro e W3 ⟨u, rfl, hu, _, b3, _⟩
      have HUU := Lib.hid hu
      go_wp2
      go_ret
      exact ⟨u, rfl, HE.out ▸ HUU.out, (hbw.trans b2).trans b3⟩
    · obtain ⟨o, ho⟩ : ∃ o : Nat, Lib.indexByte rest 38 = o := ⟨(Lib.indexByte rest 38).toNat, by omega⟩
      obtain ⟨h38, hpl⟩ := Lib.indexByte_some ho
      rw [ho]
      obtain ⟨hor, h38⟩ := List.getElem?_eq_some_iff.1 h38
      have hcons : rest.drop o = 38 :: rest.drop (o + 1) := by rw [List.drop_eq_getElem_cons hor, h38]
      have hsplit : dec rest = rest.take o ++ dec (rest.drop o) := by
        have := dec_plain (rest.take o) (rest.drop o) (fun c hc e => by
          obtain ⟨k, hk⟩ := List.mem_iff_getElem?.1 hc
          rw [List.getElem?_take] at hk
          split at hk
          · rename_i h; exact hpl k h (by rw [hk, e])
          · cases hk)
        rwa [List.take_append_drop] at this
      have hot : o ≤ t.size := by have := HSZ.out; omega
      have ht0 := s_take HT.out o
      have ht1 := s_drop HT.out o
      generalize hp0 : t.extract 0 o = t0 at *
      generalize hp1 : t.extract o t.size = t1 at *
      have hl1 : (rest.take o).length = o := by rw [List.length_take]; omega
      have hl2 : (rest.drop o).length + o = rest.length := by rw [List.length_drop]; omega
      have hacc := HACC.out
      rw [hsplit] at hacc
      have hs1 := ht1.size
      have hts := HSZ.out
      have hone := one_le (rest.drop o)
      have hbd := one_bd (rest.drop o)
      have hts1 : t1.size ≤ t.size := by omega
      have hpos : 1 ≤ t1.size := by rw [hs1, hcons]; simp
      have hnext : dec (rest.drop o) = if 0 < (one (rest.drop o)).2 then Lib.encodeRune (one (rest.drop o)).1 ++ dec ((rest.drop o).drop (one (rest.drop o)).2) else 38 :: dec ((rest.drop o).drop 1) := by
        rw [hcons]
        by_cases h0 : 0 < (one (38 :: rest.drop (o + 1))).2
        · rw [if_pos h0, dec_ref _ h0]
        · rw [if_neg h0, dec_amp _ h0]; rfl
      clear hsplit hpl ho hno hcons h38 hge
      generalize hR1 : rest.drop o = r1 at *
      generalize hR0 : rest.take o = r0 at *
      have HA := Lib.hid hacc
      have HN := Lib.hid hnext
      have HS1 := Lib.hid hs1
      have HT0 := Lib.hid ht0
      have HT1 := Lib.hid ht1
      have honesz : (one r1).2 ≤ t1.size := by omega
      have hr0l : r0.length + r1.length = rest.length := by omega
      clear hacc hnext hs1 hts ht0 ht1 hR1 hR0 hl1 hl2
      go_wp2_with fail
      refine (WriteString_any HT0.out hB (by omega) hww).mono ?_
      rintro e W2 ⟨rfl, h2, b2, k2⟩
      have hbw2 := hbw.trans b2
      have hww2 := hbw2.size
      clear hB
      go_wp2_with fail
      refine (RefsOne_any HT1.out (by omega)).mono ?_
      rintro e W3 ⟨he, b3⟩
      have h3 : Bld w.heap.size w.heap.size (acc ++ r0) W3 := Bld.below h2 b3
      have hbw3 := bt hbw2 b3
      have hww3 := hbw3.size
      generalize one r1 = p at *
      obtain ⟨r, n⟩ := p
      obtain rfl := he.out
      simp only at honesz hone hbd
      have HN2 := Lib.hid (show dec r1 = if 0 < n then Lib.encodeRune r ++ dec (r1.drop n) else 38 :: dec (r1.drop 1) from HN.out)
      have her := encodeRune_length r
      clear h2 he HN
      by_cases h0 : 0 < n
      · have ht2 := s_drop HT1.out n
        generalize hp2 : t1.extract n t1.size = t2 at *
        have hs2 := ht2.size
        rw [List.length_drop] at hs2
        have hs1 := HS1.out
        have hlt : t2.size < t.size := by omega
        have HT2 := Lib.hid ht2
        have HAA := Lib.hid (show acc ++ r0 ++ Lib.encodeRune r ++ dec (r1.drop n) = dec l by
          rw [← HA.out, HN2.out, if_pos h0]; simp)
        clear ht2 hs2 hs1
        go_wp2_with fail
        refine (WriteRune_any r (by omega) (by omega) h3 (by rw [List.length_append]; omega) hww3).mono ?_
        rintro e W4 ⟨rfl, h4, b4, k4⟩
        go_wp2
        go_roundw
        case rel => exact ⟨t2, r1.drop n, acc ++ r0 ++ Lib.encodeRune r, rfl, HT2.out, h4, hbw3.trans b4, HAA.out, by simp only [List.length_append, List.length_drop]; omega⟩
        case measure => simpa [strLen] using hlt
      · have ht2 := s_drop HT1.out 1
        generalize hp2 : t1.extract 1 t1.size = t2 at *
        have hs2 := ht2.size
        rw [List.length_drop] at hs2
        have hs1 := HS1.out
        have hlt : t2.size < t.size := by omega
        have hr1 : 1 ≤ r1.length := by omega
        have HT2 := Lib.hid ht2
        have HAA := Lib.hid (show acc ++ r0 ++ [38] ++ dec (r1.drop 1) = dec l by
          rw [← HA.out, HN2.out, if_neg h0]; simp)
        clear ht2 hs2 hs1
        go_wp2_with fail
        refine (WriteByte_any 38 h3 (by rw [List.length_append]; omega) hww3).mono ?_
        rintro e W4 ⟨rfl, h4, b4, k4⟩
        go_wp2
        go_roundw
        case rel => exact ⟨t2, r1.drop 1, acc ++ r0 ++ [38], rfl, HT2.out, h4, hbw3.trans b4, HAA.out, by simp only [List.length_append, List.length_drop, List.length_singleton]; omega⟩
        case measure => simpa [strLen] using hlt
end Go.Proofs.YtnkelhmjkmeilaaGreatDoor
end
section
namespace Go.Proofs.YtnkelhmjkmeilaaGreatDoor
open Go.Lib
theorem ascii_enc (c : UInt8) (h : c.toNat < 128) : encodeRune (c.toNat : Int) = [c] := by
  have : ∀ n : Nat, n < 128 → encodeRune (n : Int) = [n.toUInt8] := by decide
  rw [this _ h]
  simp
theorem enc_bytes (r : Int) (h : okRune r) : (∃ c : UInt8, c.toNat < 128 ∧ (c.toNat : Int) = r ∧ encodeRune r = [c]) ∨ (128 ≤ r ∧ ∀ c ∈ encodeRune r, 128 ≤ c.toNat) := by
  by_cases hr : r < 128
  · left
    have h0 : 0 ≤ r := by unfold okRune at h; omega
    refine ⟨r.toNat.toUInt8, ?_, ?_, ?_⟩
    · rw [toU8n _ (by omega)]; omega
    · rw [toU8n _ (by omega)]; omega
    · have := ascii_enc r.toNat.toUInt8 (by rw [toU8n _ (by omega)]; omega)
      rw [toU8n _ (by omega)] at this
      rwa [show ((r.toNat : Nat) : Int) = r by omega] at this
  · right
    refine ⟨by omega, ?_⟩
    intro c hc
    unfold encodeRune at hc
    obtain ⟨x, hx, rfl⟩ := List.mem_map.1 hc
    have hb : 128 ≤ x ∧ x < 256 := by
      unfold okRune at h
      unfold encodeRuneZ at hx
      rw [if_neg (by omega)] at hx
      split at hx
      · simp only [List.mem_cons, List.not_mem_nil, or_false] at hx; omega
      · split at hx
        · simp only [List.mem_cons, List.not_mem_nil, or_false] at hx; omega
        · split at hx
          · simp only [List.mem_cons, List.not_mem_nil, or_false] at hx; omega
          · simp only [List.mem_cons, List.not_mem_nil, or_false] at hx; omega
    rw [toU8n _ (by omega)]
    omega
end Go.Proofs.YtnkelhmjkmeilaaGreatDoor
end
section
namespace Go.Proofs.YtnkelhmjkmeilaaGreatDoor
open Go.RowKit
theorem byteCells_drop (l : List UInt8) (k : Nat) : (Lib.byteCells l).drop k = Lib.byteCells (l.drop k) := by simp [Lib.byteCells]
theorem decode_str {s : ByteArray} {l : List UInt8} (h : IsStr s l) (pos : Nat) : Utf8.decode s pos = Lib.decodeL (l.drop pos) := by
  rw [← Lib.decodeL_drop, h.out]
end Go.Proofs.YtnkelhmjkmeilaaGreatDoor
end
section
namespace Go.Proofs.YtnkelhmjkmeilaaGreatDoor
open Go.RowKit
def lower (c : UInt8) : UInt8 := if 65 ≤ c.toNat ∧ c.toNat ≤ 90 then (c.toNat + 32).toUInt8 else c
theorem lower_int (c : UInt8) : ((lower c).toNat : Int) = if 65 ≤ (c.toNat : Int) ∧ (c.toNat : Int) ≤ 90 then (c.toNat : Int) + 32 else c.toNat := by
  have := c.toNat_lt
  unfold lower
  by_cases h : 65 ≤ c.toNat ∧ c.toNat ≤ 90
  · rw [if_pos h, if_pos (by omega)]
    simp only [Nat.toUInt8_eq, UInt8.toNat_ofNat']
    omega
  · rw [if_neg h, if_neg (by omega)]
theorem small_any (c : UInt8) (w : World) : Calls Tryz.prog 336 #[.int .u8 c.toNat] w fun e w' => e = .returned (.int .u8 (lower c).toNat) ∧ w' = w := by
  have hc := c.toNat_lt
  rw [lower_int]
  by_cases h : 65 ≤ (c.toNat : Int) ∧ (c.toNat : Int) ≤ 90
  · rw [if_pos h]
    obtain ⟨h1, h2⟩ := h
    go_enter Tryz.func336, Tryz.ntmps336
    go_wp2
    go_ret
    exact ⟨by simp; omega, rfl⟩
  · rw [if_neg h]
    by_cases h1 : 65 ≤ (c.toNat : Int)
    · have h2 : ¬ (c.toNat : Int) ≤ 90 := by omega
      go_enter Tryz.func336, Tryz.ntmps336
      go_wp2
      go_ret
      exact ⟨rfl, rfl⟩
    · go_enter Tryz.func336, Tryz.ntmps336
      go_wp2
      go_ret
      exact ⟨rfl, rfl⟩
end Go.Proofs.YtnkelhmjkmeilaaGreatDoor
end
section
namespace Go.Proofs.YtnkelhmjkmeilaaGreatDoor
open Go.RowKit
theorem getElem_str {s : ByteArray} {l : List UInt8} (h : IsStr s l) (k : Nat) (hk : k < s.size) (hk' : k < l.length) : s[k] = l[k] := by
  have := h.out
  subst this
  rfl
theorem cells_heap {w : World} {g : Nat} {cur : Array Value} {e : TypeId} {fz : Nat × Nat} (h : w.heap[g]? = some (.cells cur e fz)) (j : Nat) : w.cell? ⟨g, j, none⟩ = cur[j]? := by
  simp [World.cell?, h]
theorem frozen_heap {w : World} {g : Nat} {cur : Array Value} {e : TypeId} {fz : Nat × Nat} (h : w.heap[g]? = some (.cells cur e fz)) (j : Nat) (hj : j < fz.1) : w.frozen? ⟨g, j, none⟩ = false := by
  obtain ⟨lo, hi⟩ := fz
  simp only [World.frozen?, h]
  simp at hj
  simp
  omega
theorem setCell_heap {w : World} {g : Nat} {cur : Array Value} {e : TypeId} {fz : Nat × Nat} (h : w.heap[g]? = some (.cells cur e fz)) (j : Nat) (v : Value) :
    (w.setCell ⟨g, j, none⟩ v).heap[g]? = some (.cells (cur.setIfInBounds j v) e fz) := by
  simp [World.setCell, Array.getElem?_modify, h]
theorem Rd.of_heap {w : World} {g n : Nat} {cur : Array Value} {e : TypeId} {fz : Nat × Nat} {xs : List Value} (h : w.heap[g]? = some (.cells cur e fz)) (hx : cur.toList.take n = xs) (hl : xs.length = n) : Rd w (g + 1) 1 (some ⟨g, 0, none⟩) n xs := by
  refine ⟨by omega, fun _ => ⟨_, rfl, Nat.lt_succ_self g, fun j u hu => ?_⟩⟩
  have : (⟨g, 0, none⟩ : Addr).add j = ⟨g, j, none⟩ := by unfold Addr.add; split <;> simp_all
  rw [this, cells_heap h]
  subst hx
  rw [List.getElem?_take] at hu
  split at hu
  · simpa using hu
  · cases hu
theorem bytesRow_take (s : ByteArray) (N : Nat) {l : List UInt8} (h : IsStr s l) : (bytesRow s N).toList.take l.length = Lib.byteCells l := by
  have h1 := h.out
  subst h1
  simp only [bytesRow, Array.toList_append, Array.toList_map]
  rw [List.take_append_of_le_length (by simp), List.take_of_length_le (by simp)]
  rfl
theorem bytesRow_size (s : ByteArray) (N : Nat) : s.size ≤ (bytesRow s N).size := by
  simp only [bytesRow, Array.size_append, Array.size_map]
  exact Nat.le_add_right _ _
set_option maxHeartbeats 400000 in
theorem Fold_any {w : World} {s : ByteArray} {l : List UInt8} (hs : IsStr s l) (hn : l.length ≤ 1000000) :
    Calls Tryz.prog 329 #[.string s] w fun e w' => ∃ t, e = .returned (.string t) ∧ IsStr t (l.map lower) ∧ Below w.heap.size w w' := by
  have hss := hs.size
  have hsb : s.size ≤ 1000000 := by omega
  have hcb := fun (w : World) => run_bytes_of_string (P := Tryz.prog) w 9 23 5 s Tryz.underlying9 Tryz.underlying23 Tryz.underlying5
  have HSS := Lib.hid hss
  clear hss
  go_enter Tryz.func329, Tryz.ntmps329
  go_wp2
  clear hcb
  go_loopw [10] (fun i wr => ∃ k : Nat, i = .int .i64 k ∧ k ≤ s.size ∧ Below w.heap.size w wr ∧ ∃ cur fz, wr.heap[w.heap.size]? = some (.cells cur 5 fz) ∧ s.size ≤ fz.1 ∧ cur.toList.take l.length = Lib.byteCells ((l.take k).map lower ++ l.drop k)) (fun i _ => s.size - (intOf i).toNat)
  case atStart =>
    refine ⟨0, rfl, Nat.zero_le _, (Below.refl _ w).drew.alloc (Nat.le_refl _) _, _, _, heap_alloc_new w.drew _, ?_, ?_⟩
    · exact bytesRow_size _ _
    · exact bytesRow_take _ _ hs
  case round =>
    obtain ⟨k, rfl, hk, hbw, cur, fz, hh, hfz, hcur⟩ := hrel
    have hss := HSS.out
    by_cases hlt : k < s.size
    · have hkl : k < l.length := by omega
      have hget : cur[k]? = some (.int .u8 (l[k]).toNat) := by
        have h1 : (cur.toList.take l.length)[k]? = cur[k]? := by rw [List.getElem?_take, if_pos hkl]; simp
        rw [← h1, hcur]
        simp only [Lib.byteCells, List.getElem?_map, List.getElem?_append, List.length_map, List.length_take, List.getElem?_drop]
        rw [if_neg (by omega), show k + (k - min k l.length) = k by omega, List.getElem?_eq_getElem hkl]
        rfl
      have hc : wr.cell? ⟨w.heap.size, k, none⟩ = some (.int .u8 (l[k]).toNat) := by rw [cells_heap hh]; exact hget
      have hf : wr.frozen? ⟨w.heap.size, k, none⟩ = false := frozen_heap hh k (by omega)
      have hcur' : (cur.setIfInBounds k (.int .u8 (lower l[k]).toNat)).toList.take l.length = Lib.byteCells ((l.take (k + 1)).map lower ++ l.drop (k + 1)) := by
        rw [Array.toList_setIfInBounds, List.take_set, hcur]
        apply List.ext_getElem?
        intro j
        simp only [Lib.byteCells, List.getElem?_map, List.getElem?_set, List.getElem?_append, List.length_map, List.length_take, List.length_append, List.length_drop, List.getElem?_take, List.getElem?_drop]
        by_cases h1 : j < k
        · rw [if_neg (by omega), if_pos (by omega), if_pos (by omega), if_pos (by omega), if_pos (by omega)]
        · by_cases h2 : j = k
          · subst h2
            rw [if_pos rfl, if_pos (by omega), if_pos (by omega), if_pos (by omega)]
            simp [List.getElem?_eq_getElem hkl]
          · rw [if_neg (by omega), if_neg (by omega), if_neg (by omega), show k + (j - min k l.length) = j by omega, show k + 1 + (j - min (k + 1) l.length) = j by omega]
      have HG := Lib.hid hget
      have HC := Lib.hid hcur
      have HC' := Lib.hid hcur'
      generalize hx : l[k] = x at *
      clear hget hcur hcur' hss hx
      go_wp2_with (go_at_call 336; refine (small_any x _).mono ?_; rintro e w' ⟨rfl, rfl⟩)
      go_roundw
      case rel => exact ⟨k + 1, by go_num, by omega, hbw.setCell (p := ⟨w.heap.size, k, none⟩) (Nat.le_refl _) _, _, fz, setCell_heap hh k _, hfz, HC'.out⟩
      case measure => simp [intOf]; omega
    · have hcv := fun c => run_bytes_str (P := Tryz.prog) (Rd.of_heap hh (n := s.size) (xs := Lib.byteCells (l.map lower)) (by rw [hss, hcur, show k = l.length by omega]; simp) (by simp [Lib.byteCells, hss])) 23 5 9 c Tryz.underlying23 Tryz.underlying5 Tryz.underlying9
      clear hcur hss
      go_wp2
      go_ret
      exact ⟨_, rfl, IsStr.mk _, hbw⟩
end Go.Proofs.YtnkelhmjkmeilaaGreatDoor
end
section
namespace Go.Proofs.YtnkelhmjkmeilaaGreatDoor
open Go.RowKit
def prefixed (l m : List UInt8) : Bool := decide (m.length ≤ l.length) && ((l.take m.length).map lower == m)
theorem prefixed_short {l m : List UInt8} (h : l.length < m.length) : prefixed l m = false := by simp [prefixed]; omega
theorem prefixed_no {l m : List UInt8} {k : Nat} (hl : k < l.length) (hm : k < m.length) (h : lower l[k] ≠ m[k]) : prefixed l m = false := by
  simp only [prefixed, Bool.and_eq_false_iff]
  right
  rw [beq_eq_false_iff_ne]
  intro e
  apply h
  have := congrArg (·[k]?) e
  simp [hm, List.getElem?_eq_getElem hl] at this
  exact this
theorem prefixed_yes {l m : List UInt8} (hl : m.length ≤ l.length) (h : (l.take m.length).map lower = m) : prefixed l m = true := by
  simp [prefixed, hl, h]
theorem lower_ne {a b : UInt8} (h : lower a ≠ b) : (((lower a).toNat : Int) != (b.toNat : Int)) = true := by
  rw [bne_iff_ne]
  intro e
  apply h
  exact UInt8.toNat_inj.1 (by omega)
theorem lower_eq {a b : UInt8} (h : lower a = b) : (((lower a).toNat : Int) != (b.toNat : Int)) = false := by
  rw [h]; simp
set_option maxHeartbeats 400000 in
theorem Prefix_any {w : World} {s t : ByteArray} {l m : List UInt8} (hs : IsStr s l) (ht : IsStr t m) (hl : l.length ≤ 1000000) (hm : m.length ≤ 1000000) :
    Calls Tryz.prog 325 #[.string s, .string t] w fun e w' => e = .returned (.bool (prefixed l m)) ∧ Below w.heap.size w w' := by
  have hss := hs.size
  have hts := ht.size
  have hsb : s.size ≤ 1000000 := by omega
  have htb : t.size ≤ 1000000 := by omega
  by_cases hlen : s.size < t.size
  · have hp := prefixed_short (l := l) (m := m) (by omega)
    rw [hp]
    clear hss hts hp
    go_enter Tryz.func325, Tryz.ntmps325
    go_wp2
    go_ret
    exact ⟨rfl, Below.refl _ _⟩
  · have HSS := Lib.hid hss
    have HTS := Lib.hid hts
    clear hss hts
    go_enter Tryz.func325, Tryz.ntmps325
    go_wp2
    go_loopw [13] (fun i wr => ∃ k : Nat, i = .int .i64 k ∧ k ≤ t.size ∧ Below w.heap.size w wr ∧ (l.take k).map lower = m.take k) (fun i _ => t.size - (intOf i).toNat)
    case atStart => exact ⟨0, rfl, Nat.zero_le _, Below.refl _ _, by simp⟩
    case round =>
      obtain ⟨k, rfl, hk, hbw, hpre⟩ := hrel
      have HP := Lib.hid hpre
      clear hpre
      have hss := HSS.out
      have hts := HTS.out
      by_cases hlt : k < t.size
      · have hks : k < s.size := by omega
        have hkl : k < l.length := by omega
        have hkm : k < m.length := by omega
        have e1 := getElem_str hs k hks hkl
        have e2 := getElem_str ht k hlt hkm
        have g0 : (0 : Int) ≤ (k : Int) := by omega
        have g1 : (k : Int) < (s.size : Int) := by omega
        have g2 : (k : Int) < (t.size : Int) := by omega
        by_cases heq : lower l[k] = m[k]
        · have hd := lower_eq heq
          have hnext : (l.take (k + 1)).map lower = m.take (k + 1) := by
            rw [List.take_succ_eq_append_getElem hkl, List.take_succ_eq_append_getElem hkm, List.map_append, HP.out, List.map_cons, List.map_nil, heq]
          have HN := Lib.hid hnext
          rw [← e1, ← e2] at hd
          clear hnext heq e1 e2 hss hts
          go_wp2
          go_quiet ((go_at_call 336; exact Calls.quiet_of_same (small_any _ _)))
          go_wp2
          go_roundw
          case rel => exact ⟨k + 1, by go_num, by omega, below_drewN hbw _, HN.out⟩
          case measure => simp [intOf]; omega
        · have hd := lower_ne heq
          have HPR := Lib.hid (prefixed_no hkl hkm heq)
          rw [← e1, ← e2] at hd
          clear e1 e2 hss hts heq
          go_wp2
          go_quiet ((go_at_call 336; exact Calls.quiet_of_same (small_any _ _)))
          go_wp2
          go_ret
          exact ⟨ret_bool HPR.out.symm, below_drewN hbw _⟩
      · have hp := prefixed_yes (l := l) (m := m) (by omega) (by rw [show m.length = k by omega, HP.out, List.take_of_length_le (by omega)])
        have HPR := Lib.hid hp
        clear hp hss hts
        go_wp2
        go_ret
        exact ⟨ret_bool HPR.out.symm, hbw⟩
end Go.Proofs.YtnkelhmjkmeilaaGreatDoor
end
section
namespace Go.Proofs.YtnkelhmjkmeilaaGreatDoor
open Go.Lib
def by_ (l : List UInt8) (k : Nat) : Nat := (l.getD k 0).toNat
def goes (l : List UInt8) (k : Nat) : Prop := 128 ≤ by_ l k ∧ by_ l k < 192
instance (l : List UInt8) (k : Nat) : Decidable (goes l k) := inferInstanceAs (Decidable (_ ∧ _))
def val (l : List UInt8) (lead : Int) : Nat → Int
  | 0 => (by_ l 0 : Int) - lead
  | k + 1 => 64 * val l lead k + (by_ l (k + 1) : Int) - 128
end Go.Proofs.YtnkelhmjkmeilaaGreatDoor
end
section
namespace Go.Proofs.YtnkelhmjkmeilaaGreatDoor
open Go.RowKit
theorem Rd.from_ {w : World} {B n k : Nat} {a : Addr} {l : List UInt8} (h : Rd w B 1 (some a) n (Lib.byteCells l)) (hk : k < n) : Rd w B 1 (some (a.add k)) (n - k) (Lib.byteCells (l.drop k)) := by
  have := h.cut (k := k) (cap := n) (by omega) (Nat.le_refl _)
  rw [if_neg (by omega)] at this
  simpa [byteCells_drop] using this
end Go.Proofs.YtnkelhmjkmeilaaGreatDoor
end
