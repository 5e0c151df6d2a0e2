/- The walks of the package refs: number. -/
import Derived.Test.YtninjljkdbemkaaRw2
import Derived.Test.YtninjljkdbemkaaStr
namespace Go.Proofs.Ytninjljkdbemkaa
open Go.RowKit

theorem decodeL_high (c : UInt8) (t : List UInt8) (h : 128 ≤ c.toNat) : 128 ≤ (Lib.decodeL (c :: t)).1 := by
  rw [Lib.decodeL_N]
  have h0 : ((c :: t).getD 0 0).toNat = c.toNat := rfl
  rw [h0]
  have h1 := c.toNat_lt
  generalize c.toNat = b0 at *
  generalize ((c :: t).getD 1 0).toNat = b1
  generalize ((c :: t).getD 2 0).toNat = b2
  generalize ((c :: t).getD 3 0).toNat = b3
  rcases Lib.decodeN_shape (c :: t).length b0 b1 b2 b3 with ⟨c, e⟩ | ⟨c1, c2, c3, cv, e⟩ | ⟨c1, c2, c3, c4, cv, cs, e⟩ | ⟨c1, c2, c3, c4, c5, cv, cw, e⟩ | e <;> rw [e] <;> simp only [] <;> omega
theorem digitOf_high (c base : Int) (h : 128 ≤ c) : digitOf c base = -1 := by
  unfold digitOf
  rw [if_neg (by omega), if_neg (by omega), if_neg (by omega)]
theorem numGo_end {base : Int} {most : Nat} {c : UInt8} {t : List UInt8} {n : Int} {k : Nat} (h : c = 59) (hk : k = 0) : numGo base most (c :: t) n k = none := by
  simp only [numGo, if_pos h, if_pos hk]
theorem numGo_fin {base : Int} {most : Nat} {c : UInt8} {t : List UInt8} {n : Int} {k : Nat} (h : c = 59) (hk : k ≠ 0) : numGo base most (c :: t) n k = some (n, k) := by
  simp only [numGo, if_pos h, if_neg hk]
theorem numGo_odd {base : Int} {most : Nat} {c : UInt8} {t : List UInt8} {n : Int} {k : Nat} (h : c ≠ 59) (hk : digitOf c.toNat base < 0 ∨ k = most) : numGo base most (c :: t) n k = none := by
  simp only [numGo, if_neg h, if_pos hk]
theorem numGo_on {base : Int} {most : Nat} {c : UInt8} {t : List UInt8} {n : Int} {k : Nat} (h : c ≠ 59) (hk : ¬ (digitOf c.toNat base < 0 ∨ k = most)) : numGo base most (c :: t) n k = numGo base most t (n * base + digitOf c.toNat base) (k + 1) := by
  simp only [numGo, if_neg h, if_neg hk]
theorem numRef_none {l : List UInt8} {f most : Nat} {base : Int} (h : numGo base most (l.drop f) 0 0 = none) : numRef l f base most = (0, 0) := by
  simp only [numRef, h]
theorem numRef_some {l : List UInt8} {f most k : Nat} {base n : Int} (h : numGo base most (l.drop f) 0 0 = some (n, k)) : numRef l f base most = (charOf n, f + k + 1) := by
  simp only [numRef, h]
theorem pow_step (x n d base : Int) (hn : n < x) (h0 : 0 ≤ n) (hd : d < base) (hd0 : 0 ≤ d) (hb : base = 10 ∨ base = 16) : 0 ≤ n * base + d ∧ n * base + d < 16 * x ∧ n * base ≤ 16 * x := by
  rcases hb with rfl | rfl <;> omega

/-- a pair told -/
def PairIs (e : Ending) (p : Int × Nat) : Prop := e = .returned (.tuple #[.int .i32 p.1, .int .i64 p.2])
theorem PairIs.out {e : Ending} {p : Int × Nat} (h : PairIs e p) : e = .returned (.tuple #[.int .i32 p.1, .int .i64 p.2]) := h
theorem PairIs.zero {p : Int × Nat} (h : p = (0, 0)) : PairIs (.returned (.tuple #[.int .i32 0, .int .i64 0])) p := by subst h; rfl

set_option maxHeartbeats 1000000 in
/-- refs.number -/
theorem number_any {w : World} {s : ByteArray} {l : List UInt8} (hs : IsStr s l) (hl : l.length ≤ 1000000) (f most : Nat) (hf : f ≤ l.length) (base : Int) (hb : base = 10 ∨ base = 16) (hm : most ≤ 7) :
    Calls Try.prog 62 #[.string s, .int .i64 f, .int .i64 base, .int .i64 most] w fun e w' => PairIs e (numRef l f base most) ∧ Below w.heap.size w w' := by
  have hsz := hs.size
  have hfs : f ≤ s.size := by omega
  have hsb : s.size ≤ 1000000 := by omega
  have hu := s_drop hs f
  have hus := hu.size
  rw [List.length_drop] at hus
  generalize hue : s.extract f s.size = u at *
  have hub : u.size ≤ 1000000 := by omega
  have HU := Lib.hid hu
  have HSZ := Lib.hid hsz
  have HUS := Lib.hid hus
  clear hu hsz hus hs
  go_enter Try.func62, Try.ntmps62
  go_wp2
  go_loopw [10, 11] (fun n d wr => ∃ (k : Nat) (v : Int), n = .int .i64 v ∧ d = .int .i64 k ∧ k ≤ u.size ∧ k ≤ most ∧ 0 ≤ v ∧ v < ((16 ^ k : Nat) : Int) ∧ wr.heap[w.heap.size]? = some (.stringIter u k) ∧ Below w.heap.size w wr ∧
      numGo base most ((l.drop f).drop k) v k = numGo base most (l.drop f) 0 0) (fun _ _ wr => u.size - wr.iterPos w.heap.size)
  case atStart =>
    refine ⟨0, 0, rfl, rfl, Nat.zero_le _, Nat.zero_le _, by omega, by decide, ?_, (Below.refl _ w).alloc (Nat.le_refl _) _, rfl⟩
    simpa using World.iter_heap w u 0
  case round =>
    obtain ⟨k, v, rfl, rfl, hk, hkm, hv0, hv1, hit, hbw, hgo⟩ := hrel
    have hvb : 16 ^ k ≤ 268435456 := Nat.le_trans (Nat.pow_le_pow_right (by omega) (by omega : k ≤ 7)) (by decide)
    have hpw : 16 ^ (k + 1) = 16 * 16 ^ k := by rw [Nat.pow_succ, Nat.mul_comm]
    have HPW := Lib.hid hpw
    clear hpw
    have HGO := Lib.hid hgo
    clear hgo
    generalize 16 ^ k = x at *
    have hvv : v ≤ 268435456 := by omega
    by_cases hp : k < u.size
    · have hnx : ∀ ty, (Instr.next (.pointer (some ⟨w.heap.size, 0, none⟩)) true ty).run Try.prog wr = _ := fun ty => Lib.run_next_any_at wr w.heap.size u k ty hit hp
      have hgo := HGO.out
      have hul := HUS.out
      have hklt : k < (l.drop f).length := by rw [List.length_drop]; omega
      rw [List.drop_eq_getElem_cons hklt] at hgo
      have hdec := s_decode HU.out k
      rw [List.drop_eq_getElem_cons hklt] at hdec
      have hit2 := Lib.iterAt_heap wr w.heap.size u k (k + (Utf8.decode u k).2) hit
      have hbw2 := Lib.below_iterAt hbw (k := w.heap.size) (by omega) u (k + (Utf8.decode u k).2)
      have hrle := Lib.decodeL_rune ((l.drop f)[k] :: (l.drop f).drop (k + 1))
      have hmeas : wr.iterPos w.heap.size = k := by simp only [World.iterPos, hit]
      have HM := Lib.hid hmeas
      clear hmeas hul
      generalize (l.drop f)[k] = c at *
      by_cases h128 : 128 ≤ c.toNat
      · have hi := decodeL_high _ ((l.drop f).drop (k + 1)) h128
        rw [← hdec] at hi hrle
        have hne : c ≠ 59 := by intro e; rw [e] at h128; exact absurd h128 (by decide)
        have hz := numRef_none (l := l) (f := f) (most := most) (base := base) (by rw [← hgo]; exact numGo_odd hne (.inl (by rw [digitOf_high _ _ (by omega)]; decide)))
        have HZ := Lib.hid hz
        clear hgo hz hne HGO hdec
        generalize Utf8.decode u k = rw at *
        obtain ⟨r, wd⟩ := rw
        simp only at *
        have hd := digitOf_high r base (by omega)
        have hr59 : ((r : Int) == 59) = false := by simp; omega
        go_wp2_with fail
        refine (digit_any _ r base (by omega) (by omega) hb).mono ?_
        rintro e W1 ⟨rfl, b1⟩
        rw [hd]
        go_wp2
        go_ret2
        exact ⟨PairIs.zero HZ.out, bt hbw2 b1⟩
      · have hlo := Lib.decodeL_ascii c ((l.drop f).drop (k + 1)) (by omega)
        rw [← hdec] at hlo
        rw [hlo] at hit2 hbw2 hnx
        simp only at hit2 hbw2 hnx
        have hc0 : 0 ≤ (c.toNat : Int) := by omega
        have hc1 : (c.toNat : Int) ≤ 127 := by omega
        clear hlo hdec hrle
        by_cases h59 : c = 59
        · by_cases hk0 : k = 0
          · have HZ := Lib.hid (numRef_none (l := l) (f := f) (most := most) (base := base) (by rw [← hgo]; exact numGo_end h59 hk0))
            clear hgo
            subst hk0
            subst h59
            have e59 : (((59 : UInt8).toNat : Nat) : Int) = 59 := rfl
            simp only [e59] at hnx
            clear e59
            go_wp2
            go_ret2
            exact ⟨PairIs.zero HZ.out, hbw2⟩
          · have HZ := Lib.hid (numRef_some (l := l) (f := f) (most := most) (base := base) (by rw [← hgo]; exact numGo_fin h59 hk0))
            have hk0' : ((k : Int) == 0) = false := by simp; omega
            clear hgo
            subst h59
            have e59 : (((59 : UInt8).toNat : Nat) : Int) = 59 := rfl
            simp only [e59] at hnx
            clear e59
            go_wp2_with fail
            refine (character_any _ v hv0 (by omega)).mono ?_
            rintro e W1 ⟨rfl, b1⟩
            go_wp2
            go_ret2
            exact ⟨by rw [HZ.out]; rfl, bt hbw2 b1⟩
        · have hr59 : ((c.toNat : Int) == 59) = false := by
            rw [beq_eq_false_iff_ne]
            intro e
            exact h59 (UInt8.toNat_inj.1 (by rw [show (59 : UInt8).toNat = 59 from rfl]; omega))
          have hdb := digitOf_bd (c.toNat : Int) base hb
          by_cases hodd : digitOf (c.toNat : Int) base < 0
          · have HZ := Lib.hid (numRef_none (l := l) (f := f) (most := most) (base := base) (by rw [← hgo]; exact numGo_odd h59 (.inl hodd)))
            clear hgo h59
            go_wp2_with fail
            refine (digit_any _ _ base hc0 (by omega) hb).mono ?_
            rintro e W1 ⟨rfl, b1⟩
            go_wp2
            go_ret2
            exact ⟨PairIs.zero HZ.out, bt hbw2 b1⟩
          · by_cases hmo : k = most
            · have HZ := Lib.hid (numRef_none (l := l) (f := f) (most := most) (base := base) (by rw [← hgo]; exact numGo_odd h59 (.inr hmo)))
              clear hgo h59
              subst hmo
              go_wp2_with fail
              refine (digit_any _ _ base hc0 (by omega) hb).mono ?_
              rintro e W1 ⟨rfl, b1⟩
              go_wp2
              go_ret2
              exact ⟨PairIs.zero HZ.out, bt hbw2 b1⟩
            · have HN := Lib.hid (numGo_on (n := v) (t := (l.drop f).drop (k + 1)) h59 (fun h => h.elim hodd hmo) |>.symm.trans hgo)
              have hmo' : ((k : Int) == (most : Int)) = false := by simp; omega
              have hkm2 : k + 1 ≤ most := by omega
              clear hgo h59 hmo
              go_wp2_with fail
              refine (digit_any _ _ base hc0 (by omega) hb).mono ?_
              rintro e W1 ⟨rfl, b1⟩
              generalize digitOf (c.toNat : Int) base = d at *
              obtain ⟨q0, q1, q2⟩ := pow_step (x : Int) v d base hv1 hv0 hdb.2 (by omega) hb
              have q3 : 0 ≤ v * base := by rcases hb with rfl | rfl <;> omega
              have hit3 : W1.heap[w.heap.size]? = some (.stringIter u (k + 1)) := by
                have hlt := (Array.getElem?_eq_some_iff.1 hit2).1
                rw [b1.block _ hlt]; exact hit2
              go_wp2
              go_roundw
              case rel =>
                refine ⟨k + 1, v * base + d, by go_num, by go_num, by omega, by omega, q0, ?_, hit3, bt hbw2 b1, HN.out⟩
                rw [HPW.out]; exact q1
              case measure =>
                rw [HM.out]
                simp only [World.iterPos, hit3]
                omega
    · have hnx : ∀ ty, (Instr.next (.pointer (some ⟨w.heap.size, 0, none⟩)) true ty).run Try.prog wr = _ := fun ty => Lib.run_next_end_at wr w.heap.size u k ty hit hp
      have HZ := Lib.hid (numRef_none (l := l) (f := f) (most := most) (base := base) (by
        rw [← HGO.out, List.drop_of_length_le (by rw [List.length_drop]; have := HUS.out; omega)]; rfl))
      go_wp2
      go_ret2
      exact ⟨PairIs.zero HZ.out, hbw⟩
end Go.Proofs.Ytninjljkdbemkaa
