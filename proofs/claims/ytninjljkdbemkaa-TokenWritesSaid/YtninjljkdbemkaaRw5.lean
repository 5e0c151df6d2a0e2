/- The walks of the package refs: Decode. -/
import Derived.Test.YtninjljkdbemkaaRw4
import Derived.Test.YtninjljkdbemkaaBld
import Derived.Lib.IndexLaws
namespace Go.Proofs.Ytninjljkdbemkaa
open Go.RowKit

theorem Bld.below {B b : Nat} {l : List UInt8} {w w' : World} (h : Bld B b l w) (hb : Below w.heap.size w w') : Bld B b l w' := by
  have lt : ∀ {k o}, w.heap[k]? = some o → w'.heap[k]? = some o := fun {k o} hk => (hb.block k (Array.getElem?_eq_some_iff.1 hk).1).trans hk
  have key : ∀ p, Lib.BuilderAtF 60 5 B b p (Lib.byteCells l) w → Lib.BuilderAtF 60 5 B b p (Lib.byteCells l) w' := by
    rintro p ⟨hB, v, h1, hown, hne⟩
    refine ⟨hB, v, lt h1, ⟨hown.1, ?_⟩, hne⟩
    rcases hown.2 with h0 | ⟨g, cap, cur, fz, hv, e1, e2, e3⟩
    · exact .inl h0
    · exact .inr ⟨g, cap, cur, fz, hv, e1, lt e2, e3⟩
  rcases h with h | h
  · exact .inl (key _ h)
  · exact .inr (key _ h)


theorem numGo_pos (base : Int) (hb : base = 10 ∨ base = 16) (most : Nat) : ∀ (l : List UInt8) (n : Int) (k : Nat) (r : Int) (j : Nat), 0 ≤ n → numGo base most l n k = some (r, j) → 0 ≤ r
  | [], _, _, _, _, _, h => by simp [numGo] at h
  | c :: t, n, k, r, j, h0, h => by
    simp only [numGo] at h
    split at h
    · split at h
      · cases h
      · simp at h; omega
    · split at h
      · cases h
      · rename_i h2 h3
        refine numGo_pos base hb most t _ _ _ _ ?_ h
        have hd : 0 ≤ digitOf (c.toNat : Int) base := by
          have := (not_or.1 h3).1
          omega
        have : 0 ≤ n * base := by rcases hb with rfl | rfl <;> omega
        omega
theorem numRef_bd (l : List UInt8) (f : Nat) (base : Int) (hb : base = 10 ∨ base = 16) (most : Nat) : 0 ≤ (numRef l f base most).1 ∧ (numRef l f base most).1 ≤ 1114111 := by
  unfold numRef
  cases h : numGo base most (l.drop f) 0 0 with
  | none => simp
  | some p =>
    obtain ⟨n, k⟩ := p
    have := numGo_pos base hb most _ _ _ _ _ (Int.le_refl 0) h
    simp only [charOf]
    split <;> omega
theorem nameOf_bd (s : List UInt8) (r : Int) (h : nameOf s = some r) : 0 ≤ r ∧ r ≤ 8364 := by
  unfold nameOf at h
  obtain ⟨p, hp, rfl⟩ := Option.map_eq_some_iff.1 h
  have hm := List.mem_of_find?_eq_some hp
  have ha : ∀ p ∈ nameTab, 0 ≤ p.2 ∧ p.2 ≤ 8364 := by decide
  exact ha p hm
theorem one_bd (l : List UInt8) : 0 ≤ (one l).1 ∧ (one l).1 ≤ 1114111 := by
  unfold one
  split
  · exact numRef_bd _ _ _ (.inr rfl) _
  · split
    · exact numRef_bd _ _ _ (.inl rfl) _
    · split
      · unfold nameRef
        split
        · simp
        · split
          · simp
          · rename_i h; have := nameOf_bd _ _ h; simp only; omega
      · simp
def strLen : Value → Nat
  | .string t => t.size
  | _ => 0

set_option maxHeartbeats 1000000 in
set_option maxRecDepth 100000 in
/-- refs.Decode -/
theorem Decode_any {w : World} {s : ByteArray} {l : List UInt8} (hs : IsStr s l) (hl : l.length ≤ 1000000) :
    Calls Try.prog 24 #[.string s] w fun e w' => ∃ t, e = .returned (.string t) ∧ IsStr t (dec l) ∧ Below w.heap.size w w' := by
  have HS := Lib.hid hs
  clear hs
  go_enter Try.func24, Try.ntmps24
  go_wp2
  go_loopw [0] (fun v wr => ∃ (t : ByteArray) (rest acc : List UInt8), v = .string t ∧ IsStr t rest ∧ Bld w.heap.size w.heap.size acc wr ∧ Below w.heap.size w wr ∧ acc ++ dec rest = dec l ∧ acc.length + 4 * rest.length ≤ 4 * l.length) (fun v _ => strLen v)
  case atStart =>
    exact ⟨s, l, [], rfl, HS.out, Bld.fresh w, (Below.refl _ w).alloc (Nat.le_refl _) _, rfl, by simp⟩
  case round =>
    obtain ⟨t, rest, acc, rfl, ht, hB, hbw, hacc, hlen⟩ := hrel
    have hsz := ht.size
    have hsb : t.size ≤ 1000000 := by omega
    have hww := hbw.size
    have hib : Calls Try.prog 41 #[.string t, .int .u8 38] wr fun e w' => e = .returned (.int .i64 (Lib.indexByte rest 38)) ∧ w' = wr := by
      have := Try.strings_IndexByte t 38 wr
      rw [ht.out] at this
      exact this
    have HACC := Lib.hid hacc
    have HSZ := Lib.hid hsz
    have HT := Lib.hid ht
    clear hacc hsz ht
    go_wp2_with fail
    refine hib.mono ?_
    rintro e W1 ⟨rfl, rfl⟩
    clear hib
    have hge := Lib.indexByte_ge rest 38
    by_cases hno : Lib.indexByte rest 38 = -1
    · have hpl := Lib.indexByte_none hno
      have hdp : dec rest = rest := by
        have := dec_plain rest [] (fun c hc e => by
          obtain ⟨k, hk⟩ := List.mem_iff_getElem?.1 hc
          exact hpl k (by rw [hk, e]))
        rwa [List.append_nil, dec_nil, List.append_nil] at this
      rw [hno]
      have HE := Lib.hid (show acc ++ rest = dec l by rw [← HACC.out, hdp])
      clear hno hpl hdp hge
      go_wp2_with fail
      refine (WriteString_any HT.out hB (by omega) hww).mono ?_
      rintro e W2 ⟨rfl, h2, b2, k2⟩
      have hww2 := b2.size
      go_wp2_with fail
      refine (BString_any h2 (by omega)).mono ?_
      rintro e W3 ⟨u, rfl, hu, _, b3, _⟩
      have HUU := Lib.hid hu
      go_wp2
      go_ret
      exact ⟨u, rfl, HE.out ▸ HUU.out, (hbw.trans b2).trans b3⟩
    · obtain ⟨o, ho⟩ : ∃ o : Nat, Lib.indexByte rest 38 = o := ⟨(Lib.indexByte rest 38).toNat, by omega⟩
      obtain ⟨h38, hpl⟩ := Lib.indexByte_some ho
      rw [ho]
      obtain ⟨hor, h38⟩ := List.getElem?_eq_some_iff.1 h38
      have hcons : rest.drop o = 38 :: rest.drop (o + 1) := by rw [List.drop_eq_getElem_cons hor, h38]
      have hsplit : dec rest = rest.take o ++ dec (rest.drop o) := by
        have := dec_plain (rest.take o) (rest.drop o) (fun c hc e => by
          obtain ⟨k, hk⟩ := List.mem_iff_getElem?.1 hc
          rw [List.getElem?_take] at hk
          split at hk
          · rename_i h; exact hpl k h (by rw [hk, e])
          · cases hk)
        rwa [List.take_append_drop] at this
      have hot : o ≤ t.size := by have := HSZ.out; omega
      have ht0 := s_take HT.out o
      have ht1 := s_drop HT.out o
      generalize hp0 : t.extract 0 o = t0 at *
      generalize hp1 : t.extract o t.size = t1 at *
      have hl1 : (rest.take o).length = o := by rw [List.length_take]; omega
      have hl2 : (rest.drop o).length + o = rest.length := by rw [List.length_drop]; omega
      have hacc := HACC.out
      rw [hsplit] at hacc
      have hs1 := ht1.size
      have hts := HSZ.out
      have hone := one_le (rest.drop o)
      have hbd := one_bd (rest.drop o)
      have hts1 : t1.size ≤ t.size := by omega
      have hpos : 1 ≤ t1.size := by rw [hs1, hcons]; simp
      have hnext : dec (rest.drop o) = if 0 < (one (rest.drop o)).2 then Lib.encodeRune (one (rest.drop o)).1 ++ dec ((rest.drop o).drop (one (rest.drop o)).2) else 38 :: dec ((rest.drop o).drop 1) := by
        rw [hcons]
        by_cases h0 : 0 < (one (38 :: rest.drop (o + 1))).2
        · rw [if_pos h0, dec_ref _ h0]
        · rw [if_neg h0, dec_amp _ h0]; rfl
      clear hsplit hpl ho hno hcons h38 hge
      generalize hR1 : rest.drop o = r1 at *
      generalize hR0 : rest.take o = r0 at *
      have HA := Lib.hid hacc
      have HN := Lib.hid hnext
      have HS1 := Lib.hid hs1
      have HT0 := Lib.hid ht0
      have HT1 := Lib.hid ht1
      have honesz : (one r1).2 ≤ t1.size := by omega
      have hr0l : r0.length + r1.length = rest.length := by omega
      clear hacc hnext hs1 hts ht0 ht1 hR1 hR0 hl1 hl2
      go_wp2_with fail
      refine (WriteString_any HT0.out hB (by omega) hww).mono ?_
      rintro e W2 ⟨rfl, h2, b2, k2⟩
      have hbw2 := hbw.trans b2
      have hww2 := hbw2.size
      clear hB
      go_wp2_with fail
      refine (RefsOne_any HT1.out (by omega)).mono ?_
      rintro e W3 ⟨he, b3⟩
      have h3 : Bld w.heap.size w.heap.size (acc ++ r0) W3 := Bld.below h2 b3
      have hbw3 := bt hbw2 b3
      have hww3 := hbw3.size
      generalize one r1 = p at *
      obtain ⟨r, n⟩ := p
      obtain rfl := he.out
      simp only at honesz hone hbd
      have HN2 := Lib.hid (show dec r1 = if 0 < n then Lib.encodeRune r ++ dec (r1.drop n) else 38 :: dec (r1.drop 1) from HN.out)
      have her := encodeRune_length r
      clear h2 he HN
      by_cases h0 : 0 < n
      · have ht2 := s_drop HT1.out n
        generalize hp2 : t1.extract n t1.size = t2 at *
        have hs2 := ht2.size
        rw [List.length_drop] at hs2
        have hs1 := HS1.out
        have hlt : t2.size < t.size := by omega
        have HT2 := Lib.hid ht2
        have HAA := Lib.hid (show acc ++ r0 ++ Lib.encodeRune r ++ dec (r1.drop n) = dec l by
          rw [← HA.out, HN2.out, if_pos h0]; simp)
        clear ht2 hs2 hs1
        go_wp2_with fail
        refine (WriteRune_any r (by omega) (by omega) h3 (by rw [List.length_append]; omega) hww3).mono ?_
        rintro e W4 ⟨rfl, h4, b4, k4⟩
        go_wp2
        go_roundw
        case rel => exact ⟨t2, r1.drop n, acc ++ r0 ++ Lib.encodeRune r, rfl, HT2.out, h4, hbw3.trans b4, HAA.out, by simp only [List.length_append, List.length_drop]; omega⟩
        case measure => simpa [strLen] using hlt
      · have ht2 := s_drop HT1.out 1
        generalize hp2 : t1.extract 1 t1.size = t2 at *
        have hs2 := ht2.size
        rw [List.length_drop] at hs2
        have hs1 := HS1.out
        have hlt : t2.size < t.size := by omega
        have hr1 : 1 ≤ r1.length := by omega
        have HT2 := Lib.hid ht2
        have HAA := Lib.hid (show acc ++ r0 ++ [38] ++ dec (r1.drop 1) = dec l by
          rw [← HA.out, HN2.out, if_neg h0]; simp)
        clear ht2 hs2 hs1
        go_wp2_with fail
        refine (WriteByte_any 38 h3 (by rw [List.length_append]; omega) hww3).mono ?_
        rintro e W4 ⟨rfl, h4, b4, k4⟩
        go_wp2
        go_roundw
        case rel => exact ⟨t2, r1.drop 1, acc ++ r0 ++ [38], rfl, HT2.out, h4, hbw3.trans b4, HAA.out, by simp only [List.length_append, List.length_drop, List.length_singleton]; omega⟩
        case measure => simpa [strLen] using hlt
end Go.Proofs.Ytninjljkdbemkaa
