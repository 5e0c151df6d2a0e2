/- The walks of the package refs: number. Contracts of Go's library at this program's numbers, each one application of a theorem of the kit; laid by the kit's tool. The walks of the package refs: One. -/
import Derived.Ground.Names2Prog
import Derived.Shelf.LaysM
import Derived.Shelf.Slices.Cells
import Derived.Shelf.Slices.Clone
import Derived.Shelf.Slices.CompactS
import Derived.Shelf.Slices.Empties2
import Derived.Shelf.Slices.Equal
import Derived.Shelf.Slices.In.SortNone
import Derived.Shelf.Slices.Turned
import Derived.Shelf.Small.Strs
import Derived.Shelf.Small.Wraps
import Derived.Shelf.Strings.Builder1
import Derived.Shelf.Strings.Builder2
import Derived.Shelf.Strings.Builder2Cap
import Derived.Shelf.Strings.BuilderCap
import Derived.Shelf.Strings.BuilderF
import Derived.Shelf.Strings.BuilderK
import Derived.Shelf.Strings.BuilderRune
import Derived.Shelf.Strings.OnBuilder
import Derived.Shelf.Strings.Prefix
import Derived.Shelf.Strings.Search1
import Derived.Shelf.Strings.Search2
import Derived.Shelf.Strings.Search3
import Derived.Shelf.Strings.Shaped
import Derived.Shelf.Utf8.AppendRune
import Derived.Shelf.Utf8.AppendRunePlain
import Derived.Test.YtnkelhmjkmeilaaGreatDoorProg
import Derived.Test.YtnkelhmjkmeilaaGreatDoorT01
import Derived.Test.YtnkelhmjkmeilaaGreatDoorT02
section
namespace Go.Proofs.YtnkelhmjkmeilaaGreatDoor
open Go.RowKit
theorem decodeL_high (c : UInt8) (t : List UInt8) (h : 128 ≤ c.toNat) : 128 ≤ (Lib.decodeL (c :: t)).1 := by
  rw [Lib.decodeL_N]
  have h0 : ((c :: t).getD 0 0).toNat = c.toNat := rfl
  rw [h0]
  have h1 := c.toNat_lt
  generalize c.toNat = b0 at *
  generalize ((c :: t).getD 1 0).toNat = b1
  generalize ((c :: t).getD 2 0).toNat = b2
  generalize ((c :: t).getD 3 0).toNat = b3
  rcases Lib.decodeN_shape (c :: t).length b0 b1 b2 b3 with ⟨c, e⟩ | ⟨c1, c2, c3, cv, e⟩ | ⟨c1, c2, c3, c4, cv, cs, e⟩ | ⟨c1, c2, c3, c4, c5, cv, cw, e⟩ | e <;> rw [e] <;> simp only [] <;> omega
theorem digitOf_high (c base : Int) (h : 128 ≤ c) : digitOf c base = -1 := by
  unfold digitOf
  rw [if_neg (by omega), if_neg (by omega), if_neg (by omega)]
theorem numGo_end {base : Int} {most : Nat} {c : UInt8} {t : List UInt8} {n : Int} {k : Nat} (h : c = 59) (hk : k = 0) : numGo base most (c :: t) n k = none := by
  simp only [numGo, if_pos h, if_pos hk]
theorem numGo_fin {base : Int} {most : Nat} {c : UInt8} {t : List UInt8} {n : Int} {k : Nat} (h : c = 59) (hk : k ≠ 0) : numGo base most (c :: t) n k = some (n, k) := by
  simp only [numGo, if_pos h, if_neg hk]
theorem numGo_odd {base : Int} {most : Nat} {c : UInt8} {t : List UInt8} {n : Int} {k : Nat} (h : c ≠ 59) (hk : digitOf c.toNat base < 0 ∨ k = most) : numGo base most (c :: t) n k = none := by
  simp only [numGo, if_neg h, if_pos hk]
theorem numGo_on {base : Int} {most : Nat} {c : UInt8} {t : List UInt8} {n : Int} {k : Nat} (h : c ≠ 59) (hk : ¬ (digitOf c.toNat base < 0 ∨ k = most)) : numGo base most (c :: t) n k = numGo base most t (n * base + digitOf c.toNat base) (k + 1) := by
  simp only [numGo, if_neg h, if_neg hk]
theorem numRef_none {l : List UInt8} {f most : Nat} {base : Int} (h : numGo base most (l.drop f) 0 0 = none) : numRef l f base most = (0, 0) := by
  simp only [numRef, h]
theorem numRef_some {l : List UInt8} {f most k : Nat} {base n : Int} (h : numGo base most (l.drop f) 0 0 = some (n, k)) : numRef l f base most = (charOf n, f + k + 1) := by
  simp only [numRef, h]
theorem pow_step (x n d base : Int) (hn : n < x) (h0 : 0 ≤ n) (hd : d < base) (hd0 : 0 ≤ d) (hb : base = 10 ∨ base = 16) : 0 ≤ n * base + d ∧ n * base + d < 16 * x ∧ n * base ≤ 16 * x := by
  rcases hb with rfl | rfl <;> omega
def PairIs (e : Ending) (p : Int × Nat) : Prop := e = .returned (.tuple #[.int .i32 p.1, .int .i64 p.2])
theorem PairIs.out {e : Ending} {p : Int × Nat} (h : PairIs e p) : e = .returned (.tuple #[.int .i32 p.1, .int .i64 p.2]) := h
theorem PairIs.zero {p : Int × Nat} (h : p = (0, 0)) : PairIs (.returned (.tuple #[.int .i32 0, .int .i64 0])) p := by subst h; rfl
set_option maxHeartbeats 1000000 in
theorem number_any {w : World} {s : ByteArray} {l : List UInt8} (hs : IsStr s l) (hl : l.length ≤ 1000000) (f most : Nat) (hf : f ≤ l.length) (base : Int) (hb : base = 10 ∨ base = 16) (hm : most ≤ 7) :
    Calls Tryz.prog 333 #[.string s, .int .i64 f, .int .i64 base, .int .i64 most] w fun e w' => PairIs e (numRef l f base most) ∧ Below w.heap.size w w' := by
  have hsz := hs.size
  have hfs : f ≤ s.size := by omega
  have hsb : s.size ≤ 1000000 := by omega
  have hu := s_drop hs f
  have hus := hu.size
  rw [List.length_drop] at hus
  generalize hue : s.extract f s.size = u at *
  have hub : u.size ≤ 1000000 := by omega
  have HU := Lib.hid hu
  have HSZ := Lib.hid hsz
  have HUS := Lib.hid hus
  clear hu hsz hus hs
  go_enter Tryz.func333, Tryz.ntmps333
  go_wp2
  go_loopw [10, 11] (fun n d wr => ∃ (k : Nat) (v : Int), n = .int .i64 v ∧ d = .int .i64 k ∧ k ≤ u.size ∧ k ≤ most ∧ 0 ≤ v ∧ v < ((16 ^ k : Nat) : Int) ∧ wr.heap[w.heap.size]? = some (.stringIter u k) ∧ Below w.heap.size w wr ∧
      numGo base most ((l.drop f).drop k) v k = numGo base most (l.drop f) 0 0) (fun _ _ wr => u.size - wr.iterPos w.heap.size)
  case atStart =>
    refine ⟨0, 0, rfl, rfl, Nat.zero_le _, Nat.zero_le _, by omega, by decide, ?_, (Below.refl _ w).alloc (Nat.le_refl _) _, rfl⟩
    simpa using World.iter_heap w u 0
  case round =>
    obtain ⟨k, v, rfl, rfl, hk, hkm, hv0, hv1, hit, hbw, hgo⟩ := hrel
    have hvb : 16 ^ k ≤ 268435456 := Nat.le_trans (Nat.pow_le_pow_right (by omega) (by omega : k ≤ 7)) (by decide)
    have hpw : 16 ^ (k + 1) = 16 * 16 ^ k := by rw [Nat.pow_succ, Nat.mul_comm]
    have HPW := Lib.hid hpw
    clear hpw
    have HGO := Lib.hid hgo
    clear hgo
    generalize 16 ^ k = x at *
    have hvv : v ≤ 268435456 := by omega
    by_cases hp : k < u.size
    · have hnx : ∀ ty, (Instr.next (.pointer (some ⟨w.heap.size, 0, none⟩)) true ty).run Tryz.prog wr = _ := fun ty => Lib.run_next_any_at wr w.heap.size u k ty hit hp
      have hgo := HGO.out
      have hul := HUS.out
      have hklt : k < (l.drop f).length := by rw [List.length_drop]; omega
      rw [List.drop_eq_getElem_cons hklt] at hgo
      have hdec := s_decode HU.out k
      rw [List.drop_eq_getElem_cons hklt] at hdec
      have hit2 := Lib.iterAt_heap wr w.heap.size u k (k + (Utf8.decode u k).2) hit
      have hbw2 := Lib.below_iterAt hbw (k := w.heap.size) (by omega) u (k + (Utf8.decode u k).2)
      have hrle := Lib.decodeL_rune ((l.drop f)[k] :: (l.drop f).drop (k + 1))
      have hmeas : wr.iterPos w.heap.size = k := by simp only [World.iterPos, hit]
      have HM := Lib.hid hmeas
      clear hmeas hul
      generalize (l.drop f)[k] = c at *
      by_cases h128 : 128 ≤ c.toNat
      · have hi := decodeL_high _ ((l.drop f).drop (k + 1)) h128
        rw [← hdec] at hi hrle
        have hne : c ≠ 59 := by intro e; rw [e] at h128; exact absurd h128 (by decide)
        have hz := numRef_none (l := l) (f := f) (most := most) (base := base) (by rw [← hgo]; exact numGo_odd hne (.inl (by rw [digitOf_high _ _ (by omega)]; decide)))
        have HZ := Lib.hid hz
        clear hgo hz hne HGO hdec
        generalize Utf8.decode u k = rw at *
        obtain ⟨r, wd⟩ := rw
        simp only at *
        have hd := digitOf_high r base (by omega)
        have hr59 : ((r : Int) == 59) = false := by simp; omega
        go_wp2_with fail
        refine (digit_any _ r base (by omega) (by omega) hb).mono ?_
        rintro e W1 ⟨rfl, b1⟩
        rw [hd]
        go_wp2
        go_ret2
        exact ⟨PairIs.zero HZ.out, bt hbw2 b1⟩
      · have hlo := Lib.decodeL_ascii c ((l.drop f).drop (k + 1)) (by omega)
        rw [← hdec] at hlo
        rw [hlo] at hit2 hbw2 hnx
        simp only at hit2 hbw2 hnx
        have hc0 : 0 ≤ (c.toNat : Int) := by omega
        have hc1 : (c.toNat : Int) ≤ 127 := by omega
        clear hlo hdec hrle
        by_cases h59 : c = 59
        · by_cases hk0 : k = 0
          · have HZ := Lib.hid (numRef_none (l := l) (f := f) (most := most) (base := base) (by rw [← hgo]; exact numGo_end h59 hk0))
            clear hgo
            subst hk0
            subst h59
            have e59 : (((59 : UInt8).toNat : Nat) : Int) = 59 := rfl
            simp only [e59] at hnx
            clear e59
            go_wp2
            go_ret2
            exact ⟨PairIs.zero HZ.out, hbw2⟩
          · have HZ := Lib.hid (numRef_some (l := l) (f := f) (most := most) (base := base) (by rw [← hgo]; exact numGo_fin h59 hk0))
            have hk0' : ((k : Int) == 0) = false := by simp; omega
            clear hgo
            subst h59
            have e59 : (((59 : UInt8).toNat : Nat) : Int) = 59 := rfl
            simp only [e59] at hnx
            clear e59
            go_wp2_with fail
            refine (character_any _ v hv0 (by omega)).mono ?_
            rintro e W1 ⟨rfl, b1⟩
            go_wp2
            go_ret2
            exact ⟨by rw [HZ.out]; rfl, bt hbw2 b1⟩
        · have hr59 : ((c.toNat : Int) == 59) = false := by
            rw [beq_eq_false_iff_ne]
            intro e
            exact h59 (UInt8.toNat_inj.1 (by rw [show (59 : UInt8).toNat = 59 from rfl]; omega))
          have hdb := digitOf_bd (c.toNat : Int) base hb
          by_cases hodd : digitOf (c.toNat : Int) base < 0
          · have HZ := Lib.hid (numRef_none (l := l) (f := f) (most := most) (base := base) (by rw [← hgo]; exact numGo_odd h59 (.inl hodd)))
            clear hgo h59
            go_wp2_with fail
            refine (digit_any _ _ base hc0 (by omega) hb).mono ?_
            rintro e W1 ⟨rfl, b1⟩
            go_wp2
            go_ret2
            exact ⟨PairIs.zero HZ.out, bt hbw2 b1⟩
          · by_cases hmo : k = most
            · have HZ := Lib.hid (numRef_none (l := l) (f := f) (most := most) (base := base) (by rw [← hgo]; exact numGo_odd h59 (.inr hmo)))
              clear hgo h59
              subst hmo
              go_wp2_with fail
              refine (digit_any _ _ base hc0 (by omega) hb).mono ?_
              rintro e W1 ⟨rfl, b1⟩
              go_wp2
              go_ret2
              exact ⟨PairIs.zero HZ.out, bt hbw2 b1⟩
            · have HN := Lib.hid (numGo_on (n := v) (t := (l.drop f).drop (k + 1)) h59 (fun h => h.elim hodd hmo) |>.symm.trans hgo)
              have hmo' : ((k : Int) == (most : Int)) = false := by simp; omega
              have hkm2 : k + 1 ≤ most := by omega
              clear hgo h59 hmo
              go_wp2_with fail
              refine (digit_any _ _ base hc0 (by omega) hb).mono ?_
              rintro e W1 ⟨rfl, b1⟩
              generalize digitOf (c.toNat : Int) base = d at *
              obtain ⟨q0, q1, q2⟩ := pow_step (x : Int) v d base hv1 hv0 hdb.2 (by omega) hb
              have q3 : 0 ≤ v * base := by rcases hb with rfl | rfl <;> omega
              have hit3 : W1.heap[w.heap.size]? = some (.stringIter u (k + 1)) := by
                have hlt := (Array.getElem?_eq_some_iff.1 hit2).1
                rw [b1.block _ hlt]; exact hit2
              go_wp2
              go_roundw
              case rel =>
                refine ⟨k + 1, v * base + d, by go_num, by go_num, by omega, by omega, q0, ?_, hit3, bt hbw2 b1, HN.out⟩
                rw [HPW.out]; exact q1
              case measure =>
                rw [HM.out]
                simp only [World.iterPos, hit3]
                omega
    · have hnx : ∀ ty, (Instr.next (.pointer (some ⟨w.heap.size, 0, none⟩)) true ty).run Tryz.prog wr = _ := fun ty => Lib.run_next_end_at wr w.heap.size u k ty hit hp
      have HZ := Lib.hid (numRef_none (l := l) (f := f) (most := most) (base := base) (by
        rw [← HGO.out, List.drop_of_length_le (by rw [List.length_drop]; have := HUS.out; omega)]; rfl))
      go_wp2
      go_ret2
      exact ⟨PairIs.zero HZ.out, hbw⟩
end Go.Proofs.YtnkelhmjkmeilaaGreatDoor
end
section
namespace Go.Proofs
open Go.Shelf
def Tryz.lays169_ren : Go.Shelf.Ren := ⟨fun | 169 => 18 | n => n, fun | 70 => 37 | 9 => 9 | 0 => 0 | 72 => 39 | 37 => 23 | 127 => 64 | 3 => 3 | 5 => 5 | n => n, fun | n => n⟩
theorem Tryz.lays169 : Go.Proofs.Lays.n169 Tryz.prog Tryz.lays169_ren := {
  mixed := by kernel_rfl
  f169 := Tryz.func18.trans (congrArg some (by kernel_rfl))
  t0 := Tryz.underlying0
  a0 := Tryz.isAgg0
  z0 := Tryz.sizeOf0
  v0 := Tryz.zeroValue0
  t3 := Tryz.underlying3
  a3 := Tryz.isAgg3
  z3 := Tryz.sizeOf3
  v3 := Tryz.zeroValue3
  t9 := Tryz.underlying9
  a9 := Tryz.isAgg9
  z9 := Tryz.sizeOf9
  v9 := Tryz.zeroValue9
  t37 := Tryz.underlying23
  a37 := Tryz.isAgg23
  z37 := Tryz.sizeOf23
  v37 := Tryz.zeroValue23
  t70 := Tryz.underlying37
  a70 := Tryz.isAgg37
  z70 := Tryz.sizeOf37
  v70 := Tryz.zeroValue37
  t72 := Tryz.underlying39
  a72 := Tryz.isAgg39
  z72 := Tryz.sizeOf39
  v72 := Tryz.zeroValue39
  t127 := Tryz.underlying64
  a127 := Tryz.isAgg64
  z127 := Tryz.sizeOf64
  v127 := Tryz.zeroValue64 }
theorem Tryz.Builder_Extra_169 : Builder.Extra Tryz.prog Tryz.lays169_ren := {
  sizeBuilder := by kernel_rfl
  liesBuilder := by kernel_rfl
  t5 := Tryz.underlying5
  a5 := Tryz.isAgg5
  z5 := Tryz.sizeOf5
  v5 := Tryz.zeroValue5
  infoByte := by kernel_rfl
  cellsByte := by kernel_rfl
  sizeByte := by kernel_rfl
  neB5 := by decide }
def Tryz.lays137_ren : Go.Shelf.Ren := ⟨fun | 137 => 53 | 217 => 85 | 266 => 121 | n => n, fun | 9 => 9 | 5 => 5 | 3 => 3 | n => n, fun | n => n⟩
theorem Tryz.lays137 : Go.Proofs.Lays.n137 Tryz.prog Tryz.lays137_ren := {
  mixed := by kernel_rfl
  f137 := Tryz.func53.trans (congrArg some (by kernel_rfl))
  f217 := Tryz.func85.trans (congrArg some (by kernel_rfl))
  f266 := Tryz.func121.trans (congrArg some (by kernel_rfl))
  t3 := Tryz.underlying3
  a3 := Tryz.isAgg3
  z3 := Tryz.sizeOf3
  v3 := Tryz.zeroValue3
  t5 := Tryz.underlying5
  a5 := Tryz.isAgg5
  z5 := Tryz.sizeOf5
  v5 := Tryz.zeroValue5
  t9 := Tryz.underlying9
  a9 := Tryz.isAgg9
  z9 := Tryz.sizeOf9
  v9 := Tryz.zeroValue9 }
open Go.RowKit in
theorem Tryz.strings_IndexByte (s : ByteArray) (c : Int) (w : World) :
    Calls Tryz.prog 53 #[.string s, .int .u8 c] w fun e w' => e = .returned (.int .i64 (Lib.indexByte s.data.toList c.toNat.toUInt8)) ∧ w' = w := Any.strings_IndexByte Tryz.lays137 s c w
def Tryz.lays104_ren : Go.Shelf.Ren := ⟨fun | 104 => 40 | 211 => 54 | 207 => 86 | n => n, fun | 9 => 9 | 4 => 4 | 24 => 97 | 3 => 3 | n => n, fun | n => n⟩
theorem Tryz.lays104 : Go.Proofs.Lays.n104 Tryz.prog Tryz.lays104_ren := {
  mixed := by kernel_rfl
  f104 := Tryz.func40.trans (congrArg some (by kernel_rfl))
  f207 := Tryz.func86.trans (congrArg some (by kernel_rfl))
  f211 := Tryz.func54.trans (congrArg some (by kernel_rfl))
  t3 := Tryz.underlying3
  a3 := Tryz.isAgg3
  z3 := Tryz.sizeOf3
  v3 := Tryz.zeroValue3
  t4 := Tryz.underlying4
  a4 := Tryz.isAgg4
  z4 := Tryz.sizeOf4
  v4 := Tryz.zeroValue4
  t9 := Tryz.underlying9
  a9 := Tryz.isAgg9
  z9 := Tryz.sizeOf9
  v9 := Tryz.zeroValue9
  t24 := Tryz.underlying97
  a24 := Tryz.isAgg97
  z24 := Tryz.sizeOf97
  v24 := Tryz.zeroValue97 }
open Go.RowKit in
theorem Tryz.strings_CutSuffix (s p : ByteArray) (w : World) (hs : s.size ≤ 9223372036854775807) :
    Calls Tryz.prog 40 #[.string s, .string p] w fun e w' => e = .returned (.tuple #[.string ⟨(Lib.trimSuffix s.data.toList p.data.toList).toArray⟩, .bool (Lib.hasSuffix s.data.toList p.data.toList)]) ∧ w' = w := Any.strings_CutSuffix Tryz.lays104 s p w hs
open Go.RowKit in
theorem Tryz.Builder_String_any_k (B b : Nat) (l : List UInt8) (w : World) (h : Lib.IsBuilderF 39 5 B b (Lib.byteCells l) w) (hBw : B ≤ w.heap.size) :
    Calls Tryz.prog 18 #[.pointer (some ⟨b, 0, none⟩)] w fun e w' => e = .returned (.string ⟨l.toArray⟩) ∧ (Lib.IsBuilderF 39 5 B b (Lib.byteCells l) w' ∧ Below B w w' ∧ Lib.OthersKept 5 (some b) w w') := Any.Builder_String_any_k Tryz.lays169 Tryz.Builder_Extra_169 B b l w h hBw
def Tryz.lays242_ren : Go.Shelf.Ren := ⟨fun | 242 => 287 | 278 => 288 | n => n, fun | 37 => 23 | 21 => 21 | 51 => 218 | 4 => 4 | 5 => 5 | 46 => 187 | n => n, fun | n => n⟩
theorem Tryz.lays242 : Go.Proofs.Lays.n242 Tryz.prog Tryz.lays242_ren := {
  mixed := by kernel_rfl
  f242 := Tryz.func287.trans (congrArg some (by kernel_rfl))
  f278 := Tryz.func288.trans (congrArg some (by kernel_rfl))
  t4 := Tryz.underlying4
  a4 := Tryz.isAgg4
  z4 := Tryz.sizeOf4
  v4 := Tryz.zeroValue4
  t5 := Tryz.underlying5
  a5 := Tryz.isAgg5
  z5 := Tryz.sizeOf5
  v5 := Tryz.zeroValue5
  t21 := Tryz.underlying21
  a21 := Tryz.isAgg21
  z21 := Tryz.sizeOf21
  v21 := Tryz.zeroValue21
  t37 := Tryz.underlying23
  a37 := Tryz.isAgg23
  z37 := Tryz.sizeOf23
  v37 := Tryz.zeroValue23
  t46 := Tryz.underlying187
  a46 := Tryz.isAgg187
  z46 := Tryz.sizeOf187
  v46 := Tryz.zeroValue187
  t51 := Tryz.underlying218
  a51 := Tryz.isAgg218
  z51 := Tryz.sizeOf218
  v51 := Tryz.zeroValue218 }
open Go.RowKit in
theorem Tryz.utf8_AppendRune_row (B : Nat) (v : Value) (n : Nat) (xs : List Value) (r : Int) (hr0 : -2147483648 ≤ r) (hr1 : r ≤ 2147483647) (w : World) (hown : w.ownsRowF B 5 1 v n xs) (hlen : n + 4 ≤ 140737488355328) (hBw : B ≤ w.heap.size) :
    Calls Tryz.prog 287 #[v, .int .i32 r] w fun e w' => ∃ v', e = .returned v' ∧ w'.ownsRowF B 5 1 v' (n + (Lib.runeCells r).length) (xs ++ Lib.runeCells r) ∧ ∃ o, (w.alloc o).grownBy w' v.ownBlock := Any.utf8_AppendRune_row Tryz.lays242 (by kernel_rfl) B v n xs r hr0 hr1 w hown hlen hBw
def Tryz.lays143_ren : Go.Shelf.Ren := ⟨fun | 143 => 324 | 219 => 335 | 217 => 85 | 225 => 344 | 224 => 345 | 267 => 346 | 266 => 121 | 314 => 347 | n => n, fun | 9 => 9 | 3 => 3 | 4 => 4 | 5 => 5 | 46 => 187 | 146 => 462 | 51 => 218 | n => n, fun | 1 => 1 | n => n⟩
theorem Tryz.lays143 : Go.Proofs.Lays.n143 Tryz.prog Tryz.lays143_ren := {
  mixed := by kernel_rfl
  f143 := Tryz.func324.trans (congrArg some (by kernel_rfl))
  f217 := Tryz.func85.trans (congrArg some (by kernel_rfl))
  f219 := Tryz.func335.trans (congrArg some (by kernel_rfl))
  f224 := Tryz.func345.trans (congrArg some (by kernel_rfl))
  f225 := Tryz.func344.trans (congrArg some (by kernel_rfl))
  f266 := Tryz.func121.trans (congrArg some (by kernel_rfl))
  f267 := Tryz.func346.trans (congrArg some (by kernel_rfl))
  f314 := Tryz.func347.trans (congrArg some (by kernel_rfl))
  t3 := Tryz.underlying3
  a3 := Tryz.isAgg3
  z3 := Tryz.sizeOf3
  v3 := Tryz.zeroValue3
  t4 := Tryz.underlying4
  a4 := Tryz.isAgg4
  z4 := Tryz.sizeOf4
  v4 := Tryz.zeroValue4
  t5 := Tryz.underlying5
  a5 := Tryz.isAgg5
  z5 := Tryz.sizeOf5
  v5 := Tryz.zeroValue5
  t9 := Tryz.underlying9
  a9 := Tryz.isAgg9
  z9 := Tryz.sizeOf9
  v9 := Tryz.zeroValue9
  t46 := Tryz.underlying187
  a46 := Tryz.isAgg187
  z46 := Tryz.sizeOf187
  v46 := Tryz.zeroValue187
  t51 := Tryz.underlying218
  a51 := Tryz.isAgg218
  z51 := Tryz.sizeOf218
  v51 := Tryz.zeroValue218
  t146 := Tryz.underlying462
  a146 := Tryz.isAgg462
  z146 := Tryz.sizeOf462
  v146 := Tryz.zeroValue462
  g1 := by kernel_rfl }
open Go.RowKit Go.Lib in
theorem Tryz.strings_Index_one (s : ByteArray) (c : UInt8) (w : World) :
    Calls Tryz.prog 324 #[.string s, .string ⟨#[c]⟩] w fun e w' => e = .returned (.int .i64 (Lib.indexByte s.data.toList c)) ∧ w' = w := Any.strings_Index_one Tryz.lays143 s c w
open Go.RowKit Go.Lib in
theorem Tryz.strings_Index (s sub : ByteArray) (m : Int) (w : World) (hs : s.size < 4294967281) (hm : w.cell? ⟨1, 0, none⟩ = some (.int .i64 m)) :
    Calls Tryz.prog 324 #[.string s, .string sub] w fun e w' => e = .returned (.int .i64 (Lib.index s.data.toList sub.data.toList)) ∧ w' = w := Any.strings_Index Tryz.lays143 s sub m w hs hm
def Tryz.lays99_ren : Go.Shelf.Ren := ⟨fun | 99 => 87 | 206 => 122 | n => n, fun | 9 => 9 | 4 => 4 | 3 => 3 | n => n, fun | n => n⟩
theorem Tryz.lays99 : Go.Proofs.Lays.n99 Tryz.prog Tryz.lays99_ren := {
  mixed := by kernel_rfl
  f99 := Tryz.func87.trans (congrArg some (by kernel_rfl))
  f206 := Tryz.func122.trans (congrArg some (by kernel_rfl))
  t3 := Tryz.underlying3
  a3 := Tryz.isAgg3
  z3 := Tryz.sizeOf3
  v3 := Tryz.zeroValue3
  t4 := Tryz.underlying4
  a4 := Tryz.isAgg4
  z4 := Tryz.sizeOf4
  v4 := Tryz.zeroValue4
  t9 := Tryz.underlying9
  a9 := Tryz.isAgg9
  z9 := Tryz.sizeOf9
  v9 := Tryz.zeroValue9 }
open Go.RowKit Go.Lib in
theorem Tryz.strings_HasPrefix (s p : ByteArray) (w : World) :
    Calls Tryz.prog 87 #[.string s, .string p] w fun e w' => e = .returned (.bool (Lib.hasPrefix s.data.toList p.data.toList)) ∧ w' = w := Any.strings_HasPrefix Tryz.lays99 s p w
def Tryz.lays110_ren : Go.Shelf.Ren := ⟨fun | 110 => 123 | 109 => 167 | n => n, fun | 31 => 72 | 9 => 9 | 4 => 4 | 3 => 3 | 0 => 0 | n => n, fun | n => n⟩
theorem Tryz.lays110 : Go.Proofs.Lays.n110 Tryz.prog Tryz.lays110_ren := {
  mixed := by kernel_rfl
  f109 := Tryz.func167.trans (congrArg some (by kernel_rfl))
  f110 := Tryz.func123.trans (congrArg some (by kernel_rfl))
  t0 := Tryz.underlying0
  a0 := Tryz.isAgg0
  z0 := Tryz.sizeOf0
  v0 := Tryz.zeroValue0
  t3 := Tryz.underlying3
  a3 := Tryz.isAgg3
  z3 := Tryz.sizeOf3
  v3 := Tryz.zeroValue3
  t4 := Tryz.underlying4
  a4 := Tryz.isAgg4
  z4 := Tryz.sizeOf4
  v4 := Tryz.zeroValue4
  t9 := Tryz.underlying9
  a9 := Tryz.isAgg9
  z9 := Tryz.sizeOf9
  v9 := Tryz.zeroValue9
  t31 := Tryz.underlying72
  a31 := Tryz.isAgg72
  z31 := Tryz.sizeOf72
  v31 := Tryz.zeroValue72 }
open Go.Lib in
theorem Tryz.slices_Contains_string (b off n c : Nat) (zs : List ByteArray) (x : ByteArray) (w : World) (hz : n ≤ zs.length) (hbig : n ≤ 9223372036854775807) (hc : ∀ j, j < zs.length → w.cell? ⟨b, off + j, none⟩ = some (.string (zs.getD j ByteArray.empty))) :
    Calls Tryz.prog 123 #[.slice (some ⟨b, off, none⟩) n c, .string x] w fun e w' => e = .returned (.bool (Lib.containsS (zs.take n) x)) ∧ w' = w := Any.slices_Contains_string Tryz.lays110 b off n c zs x w hz hbig hc
open Go.Lib in
theorem Tryz.slices_Contains_string_empty (a : Option Addr) (c : Nat) (x : ByteArray) (w : World) :
    Calls Tryz.prog 123 #[.slice a 0 c, .string x] w fun e w' => e = .returned (.bool false) ∧ w' = w := Any.slices_Contains_string_empty Tryz.lays110 a c x w
def Tryz.lays193_ren : Go.Shelf.Ren := ⟨fun | 193 => 58 | n => n, fun | 31 => 72 | 9 => 9 | 4 => 4 | 3 => 3 | 0 => 0 | n => n, fun | n => n⟩
theorem Tryz.lays193 : Go.Proofs.Lays.n193 Tryz.prog Tryz.lays193_ren := {
  mixed := by kernel_rfl
  f193 := Tryz.func58.trans (congrArg some (by kernel_rfl))
  t0 := Tryz.underlying0
  a0 := Tryz.isAgg0
  z0 := Tryz.sizeOf0
  v0 := Tryz.zeroValue0
  t3 := Tryz.underlying3
  a3 := Tryz.isAgg3
  z3 := Tryz.sizeOf3
  v3 := Tryz.zeroValue3
  t4 := Tryz.underlying4
  a4 := Tryz.isAgg4
  z4 := Tryz.sizeOf4
  v4 := Tryz.zeroValue4
  t9 := Tryz.underlying9
  a9 := Tryz.isAgg9
  z9 := Tryz.sizeOf9
  v9 := Tryz.zeroValue9
  t31 := Tryz.underlying72
  a31 := Tryz.isAgg72
  z31 := Tryz.sizeOf72
  v31 := Tryz.zeroValue72 }
open Go.RowKit Go.Lib in
theorem Tryz.slices_Equal_string (b1 o1 n c b2 o2 m d : Nat) (xs ys : List ByteArray) (w : World) (hx : n ≤ xs.length) (hy : m ≤ ys.length) (hbig : n ≤ 9223372036854775807) (hbig2 : m ≤ 9223372036854775807) (hc1 : ∀ j, j < xs.length → w.cell? ⟨b1, o1 + j, none⟩ = some (.string (xs.getD j ByteArray.empty))) (hc2 : ∀ j, j < ys.length → w.cell? ⟨b2, o2 + j, none⟩ = some (.string (ys.getD j ByteArray.empty))) :
    Calls Tryz.prog 58 #[.slice (some ⟨b1, o1, none⟩) n c, .slice (some ⟨b2, o2, none⟩) m d] w fun e w' => e = .returned (.bool (decide (xs.take n = ys.take m))) ∧ ∃ q, w' = w.drewN q := Any.slices_Equal_string Tryz.lays193 b1 o1 n c b2 o2 m d xs ys w hx hy hbig hbig2 hc1 hc2
open Go.RowKit Go.Lib in
theorem Tryz.slices_Equal_string_empty (a1 a2 : Option Addr) (c m d : Nat) (w : World) (hbig2 : m ≤ 9223372036854775807) :
    Calls Tryz.prog 58 #[.slice a1 0 c, .slice a2 m d] w fun e w' => e = .returned (.bool (decide (m = 0))) ∧ w' = w := Any.slices_Equal_string_empty Tryz.lays193 a1 a2 c m d w hbig2
def Tryz.laysNm216_ren : Go.Shelf.Ren := ⟨fun | 16 => 56 | n => n, fun | 24 => 72 | 9 => 9 | 4 => 4 | n => n, fun | n => n⟩
theorem Tryz.laysNm216 : Go.Proofs.Lays2.n16 Tryz.prog Tryz.laysNm216_ren := {
  mixed := by kernel_rfl
  f16 := Tryz.func56.trans (congrArg some (by kernel_rfl))
  t4 := Tryz.underlying4
  a4 := Tryz.isAgg4
  z4 := Tryz.sizeOf4
  v4 := Tryz.zeroValue4
  t9 := Tryz.underlying9
  a9 := Tryz.isAgg9
  z9 := Tryz.sizeOf9
  v9 := Tryz.zeroValue9
  t24 := Tryz.underlying72
  a24 := Tryz.isAgg72
  z24 := Tryz.sizeOf72
  v24 := Tryz.zeroValue72
  i9 := by kernel_rfl }
open Go.RowKit Go.Lib in
theorem Tryz.slices_Clone_string (b off n c : Nat) (zs : List ByteArray) (w : World) (hz : n ≤ zs.length) (hbig : n * 16 ≤ 140737488355328) (hc : ∀ j, j < zs.length → w.cell? ⟨b, off + j, none⟩ = some (.string (zs.getD j ByteArray.empty))) :
    Calls Tryz.prog 56 #[.slice (some ⟨b, off, none⟩) n c] w fun e w' => ∃ v', e = .returned v' ∧ w'.ownsRow w.heap.size 9 1 v' n ((zs.take n).map (Value.string)) ∧ v' ≠ .slice none 0 0 ∧ Below w.heap.size w w' := Any.slices_Clone_string Tryz.laysNm216 b off n c zs w hz hbig hc
open Go.RowKit Go.Lib in
theorem Tryz.slices_Clone_string_zero (a : Addr) (c : Nat) (w : World) :
    Calls Tryz.prog 56 #[.slice (some a) 0 c] w fun e w' => ∃ v', e = .returned v' ∧ w'.ownsRow w.heap.size 9 1 v' 0 [] ∧ v' ≠ .slice none 0 0 ∧ Below w.heap.size w w' := Any.slices_Clone_string_zero Tryz.laysNm216 a c w
def Tryz.lays194_ren : Go.Shelf.Ren := ⟨fun | 194 => 72 | n => n, fun | 31 => 72 | 9 => 9 | 3 => 3 | 4 => 4 | 0 => 0 | n => n, fun | n => n⟩
theorem Tryz.lays194 : Go.Proofs.Lays.n194 Tryz.prog Tryz.lays194_ren := {
  mixed := by kernel_rfl
  f194 := Tryz.func72.trans (congrArg some (by kernel_rfl))
  t0 := Tryz.underlying0
  a0 := Tryz.isAgg0
  z0 := Tryz.sizeOf0
  v0 := Tryz.zeroValue0
  t3 := Tryz.underlying3
  a3 := Tryz.isAgg3
  z3 := Tryz.sizeOf3
  v3 := Tryz.zeroValue3
  t4 := Tryz.underlying4
  a4 := Tryz.isAgg4
  z4 := Tryz.sizeOf4
  v4 := Tryz.zeroValue4
  t9 := Tryz.underlying9
  a9 := Tryz.isAgg9
  z9 := Tryz.sizeOf9
  v9 := Tryz.zeroValue9
  t31 := Tryz.underlying72
  a31 := Tryz.isAgg72
  z31 := Tryz.sizeOf72
  v31 := Tryz.zeroValue72 }
open Go.RowKit Go.Lib Go.Sort in
theorem Tryz.slices_Compact_string_empty (a : Option Addr) (cap : Nat) (w : World) :
    Calls Tryz.prog 72 #[.slice a 0 cap] w fun e w' => e = .returned (.slice a 0 cap) ∧ w' = w := Any.slices_Compact_string_empty Tryz.lays194 a cap w
def Tryz.lays190_ren : Go.Shelf.Ren := ⟨fun | 190 => 71 | 125 => 103 | 258 => 102 | 128 => 143 | 129 => 130 | 302 => 134 | 303 => 135 | 304 => 136 | 305 => 137 | 306 => 138 | 307 => 139 | 308 => 140 | 309 => 141 | 310 => 142 | 333 => 174 | 329 => 175 | 330 => 176 | 334 => 177 | 335 => 178 | 336 => 179 | 344 => 204 | n => n, fun | 31 => 72 | 9 => 9 | 3 => 3 | 46 => 187 | 0 => 0 | 51 => 218 | 53 => 178 | 4 => 4 | 183 => 223 | 182 => 222 | 131 => 227 | 5 => 5 | 218 => 271 | 222 => 275 | 228 => 335 | 229 => 336 | n => n, fun | n => n⟩
theorem Tryz.lays190 : Go.Proofs.Lays.n190 Tryz.prog Tryz.lays190_ren := {
  mixed := by kernel_rfl
  f125 := Tryz.func103.trans (congrArg some (by kernel_rfl))
  f128 := Tryz.func143.trans (congrArg some (by kernel_rfl))
  f129 := Tryz.func130.trans (congrArg some (by kernel_rfl))
  f190 := Tryz.func71.trans (congrArg some (by kernel_rfl))
  f258 := Tryz.func102.trans (congrArg some (by kernel_rfl))
  f302 := Tryz.func134.trans (congrArg some (by kernel_rfl))
  f303 := Tryz.func135.trans (congrArg some (by kernel_rfl))
  f304 := Tryz.func136.trans (congrArg some (by kernel_rfl))
  f305 := Tryz.func137.trans (congrArg some (by kernel_rfl))
  f306 := Tryz.func138.trans (congrArg some (by kernel_rfl))
  f307 := Tryz.func139.trans (congrArg some (by kernel_rfl))
  f308 := Tryz.func140.trans (congrArg some (by kernel_rfl))
  f309 := Tryz.func141.trans (congrArg some (by kernel_rfl))
  f310 := Tryz.func142.trans (congrArg some (by kernel_rfl))
  f329 := Tryz.func175.trans (congrArg some (by kernel_rfl))
  f330 := Tryz.func176.trans (congrArg some (by kernel_rfl))
  f333 := Tryz.func174.trans (congrArg some (by kernel_rfl))
  f334 := Tryz.func177.trans (congrArg some (by kernel_rfl))
  f335 := Tryz.func178.trans (congrArg some (by kernel_rfl))
  f336 := Tryz.func179.trans (congrArg some (by kernel_rfl))
  f344 := Tryz.func204.trans (congrArg some (by kernel_rfl))
  t0 := Tryz.underlying0
  a0 := Tryz.isAgg0
  z0 := Tryz.sizeOf0
  v0 := Tryz.zeroValue0
  t3 := Tryz.underlying3
  a3 := Tryz.isAgg3
  z3 := Tryz.sizeOf3
  v3 := Tryz.zeroValue3
  t4 := Tryz.underlying4
  a4 := Tryz.isAgg4
  z4 := Tryz.sizeOf4
  v4 := Tryz.zeroValue4
  t5 := Tryz.underlying5
  a5 := Tryz.isAgg5
  z5 := Tryz.sizeOf5
  v5 := Tryz.zeroValue5
  t9 := Tryz.underlying9
  a9 := Tryz.isAgg9
  z9 := Tryz.sizeOf9
  v9 := Tryz.zeroValue9
  t31 := Tryz.underlying72
  a31 := Tryz.isAgg72
  z31 := Tryz.sizeOf72
  v31 := Tryz.zeroValue72
  t46 := Tryz.underlying187
  a46 := Tryz.isAgg187
  z46 := Tryz.sizeOf187
  v46 := Tryz.zeroValue187
  t51 := Tryz.underlying218
  a51 := Tryz.isAgg218
  z51 := Tryz.sizeOf218
  v51 := Tryz.zeroValue218
  t53 := Tryz.underlying178
  a53 := Tryz.isAgg178
  z53 := Tryz.sizeOf178
  v53 := Tryz.zeroValue178
  t131 := Tryz.underlying227
  a131 := Tryz.isAgg227
  z131 := Tryz.sizeOf227
  v131 := Tryz.zeroValue227
  t182 := Tryz.underlying222
  a182 := Tryz.isAgg222
  z182 := Tryz.sizeOf222
  v182 := Tryz.zeroValue222
  t183 := Tryz.underlying223
  a183 := Tryz.isAgg223
  z183 := Tryz.sizeOf223
  v183 := Tryz.zeroValue223
  t218 := Tryz.underlying271
  a218 := Tryz.isAgg271
  z218 := Tryz.sizeOf271
  v218 := Tryz.zeroValue271
  t222 := Tryz.underlying275
  a222 := Tryz.isAgg275
  z222 := Tryz.sizeOf275
  v222 := Tryz.zeroValue275
  t228 := Tryz.underlying335
  a228 := Tryz.isAgg335
  z228 := Tryz.sizeOf335
  v228 := Tryz.zeroValue335
  t229 := Tryz.underlying336
  a229 := Tryz.isAgg336
  z229 := Tryz.sizeOf336
  v229 := Tryz.zeroValue336 }
open Go.RowKit Go.Sort in
theorem Tryz.slices_Sort_string_none (p : Option Addr) (cap : Nat) (w : World) :
    Calls Tryz.prog 71 #[.slice p 0 cap] w fun e w' => e = .returned (.tuple #[]) ∧ w' = w := Any.slices_Sort_string_none Tryz.lays190 p cap w
end Go.Proofs
end
section
namespace Go.Proofs.YtnkelhmjkmeilaaGreatDoor
open Go.RowKit
theorem hasPrefix_is (l p : List UInt8) : Lib.hasPrefix l p = p.isPrefixOf l := rfl
theorem HasPrefix_any {w : World} {s : ByteArray} {l : List UInt8} (hs : IsStr s l) (p : ByteArray) {m : List UInt8} (hp : IsStr p m) :
    Calls Tryz.prog 87 #[.string s, .string p] w fun e w' => e = .returned (.bool (m.isPrefixOf l)) ∧ w' = w := by
  have := Tryz.strings_HasPrefix s p w
  rw [hs.out, hp.out, hasPrefix_is] at this
  exact this
theorem pre_len {p l : List UInt8} (h : p.isPrefixOf l = true) : p.length ≤ l.length := by
  rw [List.isPrefixOf_iff_prefix] at h
  exact h.length_le
set_option maxHeartbeats 1000000 in
set_option maxRecDepth 100000 in
theorem RefsOne_any {w : World} {s : ByteArray} {l : List UInt8} (hs : IsStr s l) (hl : l.length ≤ 1000000) :
    Calls Tryz.prog 323 #[.string s] w fun e w' => PairIs e (one l) ∧ Below w.heap.size w w' := by
  have hsz := hs.size
  have hsb : s.size ≤ 1000000 := by omega
  have HS := Lib.hid hs
  have HSZ := Lib.hid hsz
  clear hs hsz
  cases h1 : [38, 35, 120].isPrefixOf l with
  | true =>
    have HO := Lib.hid (show one l = numRef l 3 16 6 by unfold one; rw [if_pos (.inl h1)])
    have hlen := pre_len h1
    go_enter Tryz.func323, Tryz.ntmps323
    go_wp2_with fail
    refine (HasPrefix_any HS.out ⟨#[38, 35, 120]⟩ (m := [38, 35, 120]) rfl).mono ?_
    rintro e W1 ⟨rfl, rfl⟩
    rw [h1]
    clear h1
    go_wp2_with fail
    refine (number_any HS.out hl 3 6 hlen 16 (.inr rfl) (by omega)).mono ?_
    rintro e W2 ⟨he, b2⟩
    rw [← HO.out] at he
    obtain rfl := he.out
    go_wp2
    go_ret2
    exact ⟨rfl, b2⟩
  | false =>
  cases h2 : [38, 35, 88].isPrefixOf l with
  | true =>
    have HO := Lib.hid (show one l = numRef l 3 16 6 by unfold one; rw [if_pos (.inr h2)])
    have hlen := pre_len h2
    go_enter Tryz.func323, Tryz.ntmps323
    go_wp2_with fail
    refine (HasPrefix_any HS.out ⟨#[38, 35, 120]⟩ (m := [38, 35, 120]) rfl).mono ?_
    rintro e W1 ⟨rfl, rfl⟩
    rw [h1]
    clear h1
    go_wp2_with fail
    refine (HasPrefix_any HS.out ⟨#[38, 35, 88]⟩ (m := [38, 35, 88]) rfl).mono ?_
    rintro e W1 ⟨rfl, rfl⟩
    rw [h2]
    clear h2
    go_wp2_with fail
    refine (number_any HS.out hl 3 6 hlen 16 (.inr rfl) (by omega)).mono ?_
    rintro e W2 ⟨he, b2⟩
    rw [← HO.out] at he
    obtain rfl := he.out
    go_wp2
    go_ret2
    exact ⟨rfl, b2⟩
  | false =>
  cases h3 : [38, 35].isPrefixOf l with
  | true =>
    have HO := Lib.hid (show one l = numRef l 2 10 7 by unfold one; rw [if_neg (by rw [h1, h2]; simp), if_pos h3])
    have hlen := pre_len h3
    go_enter Tryz.func323, Tryz.ntmps323
    go_wp2_with fail
    refine (HasPrefix_any HS.out ⟨#[38, 35, 120]⟩ (m := [38, 35, 120]) rfl).mono ?_
    rintro e W1 ⟨rfl, rfl⟩
    rw [h1]
    clear h1
    go_wp2_with fail
    refine (HasPrefix_any HS.out ⟨#[38, 35, 88]⟩ (m := [38, 35, 88]) rfl).mono ?_
    rintro e W1 ⟨rfl, rfl⟩
    rw [h2]
    clear h2
    go_wp2_with fail
    refine (HasPrefix_any HS.out ⟨#[38, 35]⟩ (m := [38, 35]) rfl).mono ?_
    rintro e W1 ⟨rfl, rfl⟩
    rw [h3]
    clear h3
    go_wp2_with fail
    refine (number_any HS.out hl 2 7 hlen 10 (.inl rfl) (by omega)).mono ?_
    rintro e W2 ⟨he, b2⟩
    rw [← HO.out] at he
    obtain rfl := he.out
    go_wp2
    go_ret2
    exact ⟨rfl, b2⟩
  | false =>
  cases h4 : [38].isPrefixOf l with
  | false =>
    have HO := Lib.hid (show one l = (0, 0) by unfold one; rw [if_neg (by rw [h1, h2]; simp), if_neg (by rw [h3]; simp), if_neg (by rw [h4]; simp)])
    go_enter Tryz.func323, Tryz.ntmps323
    go_wp2_with fail
    refine (HasPrefix_any HS.out ⟨#[38, 35, 120]⟩ (m := [38, 35, 120]) rfl).mono ?_
    rintro e W1 ⟨rfl, rfl⟩
    rw [h1]
    clear h1
    go_wp2_with fail
    refine (HasPrefix_any HS.out ⟨#[38, 35, 88]⟩ (m := [38, 35, 88]) rfl).mono ?_
    rintro e W1 ⟨rfl, rfl⟩
    rw [h2]
    clear h2
    go_wp2_with fail
    refine (HasPrefix_any HS.out ⟨#[38, 35]⟩ (m := [38, 35]) rfl).mono ?_
    rintro e W1 ⟨rfl, rfl⟩
    rw [h3]
    clear h3
    go_wp2_with fail
    refine (HasPrefix_any HS.out ⟨#[38]⟩ (m := [38]) rfl).mono ?_
    rintro e W1 ⟨rfl, rfl⟩
    rw [h4]
    clear h4
    go_wp2
    go_ret2
    exact ⟨PairIs.zero HO.out, Below.refl _ _⟩
  | true =>
    have HO := Lib.hid (show one l = nameRef l by unfold one; rw [if_neg (by rw [h1, h2]; simp), if_neg (by rw [h3]; simp), if_pos h4])
    have hlen := pre_len h4
    go_enter Tryz.func323, Tryz.ntmps323
    go_wp2_with fail
    refine (HasPrefix_any HS.out ⟨#[38, 35, 120]⟩ (m := [38, 35, 120]) rfl).mono ?_
    rintro e W1 ⟨rfl, rfl⟩
    rw [h1]
    clear h1
    go_wp2_with fail
    refine (HasPrefix_any HS.out ⟨#[38, 35, 88]⟩ (m := [38, 35, 88]) rfl).mono ?_
    rintro e W1 ⟨rfl, rfl⟩
    rw [h2]
    clear h2
    go_wp2_with fail
    refine (HasPrefix_any HS.out ⟨#[38, 35]⟩ (m := [38, 35]) rfl).mono ?_
    rintro e W1 ⟨rfl, rfl⟩
    rw [h3]
    clear h3
    go_wp2_with fail
    refine (HasPrefix_any HS.out ⟨#[38]⟩ (m := [38]) rfl).mono ?_
    rintro e W1 ⟨rfl, rfl⟩
    rw [h4]
    clear h4
    go_wp2
    have hone : 1 ≤ s.size := by have := HSZ.out; simp at hlen; omega
    go_loopw [4] (fun i wr => ∃ k : Nat, i = .int .i64 k ∧ 1 ≤ k ∧ k ≤ 8 ∧ k ≤ s.size ∧ Below W1.heap.size W1 wr ∧ semi 7 l.tail = (semi (8 - k) (l.drop k)).map (· + (k - 1))) (fun i _ => 8 - (intOf i).toNat)
    case atStart => exact ⟨1, rfl, Nat.le_refl _, by omega, hone, Below.refl _ _, by simp [List.drop_one]⟩
    case round =>
      obtain ⟨k, rfl, hk1, hk8, hks, hbw, hse⟩ := hrel
      have hsz := HSZ.out
      by_cases hk : k < s.size ∧ k ≤ 7
      · obtain ⟨hk, hk7⟩ := hk
        have hkl : k < l.length := by omega
        rw [show 8 - k = (7 - k) + 1 by omega, List.drop_eq_getElem_cons hkl, semi] at hse
        have e1 := s_byte HS.out k hk hkl
        by_cases h59 : l[k] = 59
        · rw [if_pos h59] at hse
          simp only [Option.map_some, Nat.zero_add] at hse
          rw [h59] at e1
          have hp := s_part HS.out 1 k
          rw [List.drop_one] at hp
          have hnr : nameRef l = match nameOf (l.tail.take (k - 1)) with | none => (0, 0) | some r => (r, k + 1) := by
            unfold nameRef
            rw [hse]
            simp only [show k - 1 + 2 = k + 1 by omega]
            cases nameOf (l.tail.take (k - 1)) <;> rfl
          have HNR := Lib.hid hnr
          clear hnr hse h59 hsz
          go_wp2_with fail
          refine (Name_any hp (by rw [List.length_take]; omega)).mono ?_
          rintro e W2 ⟨rfl, b2⟩
          cases hn : nameOf (l.tail.take (k - 1)) with
          | none =>
            have HZ := Lib.hid (show one l = (0, 0) by rw [HO.out, HNR.out, hn])
            clear hn
            go_wp2
            go_ret2
            exact ⟨PairIs.zero HZ.out, bt hbw b2⟩
          | some r =>
            have HZ := Lib.hid (show one l = (r, k + 1) by rw [HO.out, HNR.out, hn])
            clear hn
            go_wp2
            go_ret2
            exact ⟨by rw [HZ.out]; rfl, bt hbw b2⟩
        · rw [if_neg h59] at hse
          have hne : (((s[k]).toNat : Int) != 59) = true := by
            rw [bne_iff_ne, e1]
            intro e
            exact h59 (UInt8.toNat_inj.1 (by rw [show (59 : UInt8).toNat = 59 from rfl]; omega))
          have HSE := Lib.hid (show semi 7 l.tail = (semi (8 - (k + 1)) (l.drop (k + 1))).map (· + (k + 1 - 1)) by
            rw [hse, Option.map_map, show 8 - (k + 1) = 7 - k by omega]
            congr 1
            funext x
            simp; omega)
          clear hse h59 e1 hsz
          go_wp2
          go_roundw
          case rel => exact ⟨k + 1, by go_num, by omega, by omega, by omega, hbw, HSE.out⟩
          case measure => simp [intOf]; omega
      · have HZ := Lib.hid (show one l = (0, 0) by
          rw [HO.out]
          unfold nameRef
          rw [hse]
          have : semi (8 - k) (l.drop k) = none := by
            by_cases h8 : k = 8
            · subst h8; rfl
            · rw [List.drop_of_length_le (by omega)]
              rw [show 8 - k = (7 - k) + 1 by omega]; rfl
          rw [this]; rfl)
        clear hse hsz
        by_cases hk' : k < s.size
        · have : 7 < k := by omega
          go_wp2
          go_ret2
          exact ⟨PairIs.zero HZ.out, hbw⟩
        · go_wp2
          go_ret2
          exact ⟨PairIs.zero HZ.out, hbw⟩
end Go.Proofs.YtnkelhmjkmeilaaGreatDoor
end
