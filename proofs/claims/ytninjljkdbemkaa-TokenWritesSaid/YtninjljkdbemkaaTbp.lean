/- strainerref05.Same: tokens that are the same. Plain: what is passed over in a beginning tag changes nothing. -/
import Derived.Test.YtninjljkdbemkaaTl
import Derived.Laws.StructEq
import Derived.Deep.DeepCutAuto
namespace Go.Proofs.Ytninjljkdbemkaa
open Go.RowKit

set_option maxRecDepth 100000 in
theorem atr_eq (s t : ByteArray) (w : World) : Sem.run Try.prog (Op.equal 40 (.agg #[.string s, .string t]) (.agg #[.string s, .string t])) w = .ok true w := by
  have hs := fun d (x : ByteArray) => run_equalIn_string (P := Try.prog) w d 9 x x Try.underlying9
  have hst : Try.prog.stoodInHeld 40 = false := by kernel_rfl
  show Sem.run Try.prog (Op.equalIn (9998 + 1 + 1) 40 (.agg #[.string s, .string t]) (.agg #[.string s, .string t])) w = .ok true w
  rw [Op.equalIn]
  have p0 : ∀ w, Sem.run Try.prog (part 9 #[.string s, .string t] 0) w = .ok (.string s) w := fun w => by kernel_rfl
  have p1 : ∀ w, Sem.run Try.prog (part 9 #[.string s, .string t] 1) w = .ok (.string t) w := fun w => by kernel_rfl
  have h1 := hs 9998 s
  have h2 := hs 9998 t
  simp [Sem.run_bind, run_underlying Try.underlying40, Result.andThen, hst, p0, p1, h1, h2]
theorem atr_neq (s t : ByteArray) (w : World) : Sem.run Try.prog (binOp BinOp.neq 40 (.agg #[.string s, .string t]) (.agg #[.string s, .string t])) w = .ok (.bool false) w := by
  simp [binOp, atr_eq, Result.andThen]

set_option maxHeartbeats 1000000 in
set_option maxRecDepth 100000 in
/-- strainerref05.Same of the same tokens -/
theorem TSame_yes {w : World} {A B : Option Addr} {c d : Nat} {l : List Tk} (hA : Toks w w.heap.size A l.length l) (hB : Toks w w.heap.size B l.length l) (hb : l.length ≤ 100000000) (hat : ∀ t ∈ l, t.attrs.length ≤ 100000000) :
    Calls Try.prog 11 #[.slice A l.length c, .slice B l.length d] w fun e w' => e = .returned (.bool true) ∧ Below w.heap.size w w' := by
  go_enter Try.func11, Try.ntmps11
  go_wp2
  go_loopw [5] (fun iv wr => ∃ k : Nat, iv = .int .i64 k ∧ k ≤ l.length ∧ Below w.heap.size w wr) (fun iv _ => l.length - (intOf iv).toNat)
  case atStart => exact ⟨0, rfl, Nat.zero_le _, Below.refl _ _⟩
  case round =>
    obtain ⟨k, rfl, hk, hw⟩ := hrel
    by_cases hlt : k < l.length
    · obtain ⟨a, A1, c1, rfl, hab, k0, n0, ats0, t0, hc0, hat0⟩ := (hA.below hw).at_ hlt hlt
      obtain ⟨b, A2, c2, rfl, hbb, k1, n1, ats1, t1, hc1, hat1⟩ := (hB.below hw).at_ hlt hlt
      have hal := hat l[k] (List.getElem_mem _)
      generalize l[k] = tk at *
      have HA := Lib.hid hA
      have HB := Lib.hid hB
      clear hA hB
      obtain ⟨wo, rfl⟩ : ∃ wo : World, wo = wr := ⟨_, rfl⟩
      go_upto_region 6 with fail
      go_cut [69] (fun s69 wx => s69 = .bool false ∧ Below wo.heap.size wo wx)
      case first =>
        go_region
        all_goals
          go_wp2_with fail
          go_meet
          exact ⟨rfl, below_drewN (Below.refl _ _) _⟩
      case rest =>
        obtain ⟨rfl, b2⟩ := hcut
        have g0 := fun w' (h : Below wo.heap.size wo w') => (h.cell (p := ⟨(a.add (k * 4)).block, (a.add (k * 4)).off + 2, none⟩) (by simp only [block_add]; exact Nat.lt_of_lt_of_le hab hw.size)).trans ats0
        have g1 := fun w' (h : Below wo.heap.size wo w') => (h.cell (p := ⟨(b.add (k * 4)).block, (b.add (k * 4)).off + 2, none⟩) (by simp only [block_add]; exact Nat.lt_of_lt_of_le hbb hw.size)).trans ats1
        clear ats0 ats1 k0 k1 n0 n1 t0 t1
        go_wp2
        go_loopw [6] (fun jv wy => ∃ j : Nat, jv = .int .i64 j ∧ j ≤ tk.attrs.length ∧ Below wo.heap.size wo wy) (fun jv _ => tk.attrs.length - (intOf jv).toNat)
        case atStart => exact ⟨0, rfl, Nat.zero_le _, b2⟩
        case round =>
          obtain ⟨j, rfl, hj, hwy⟩ := hrel
          have e0 := g0 _ hwy
          have e1 := g1 _ hwy
          by_cases hjl : j < tk.attrs.length
          · obtain ⟨ad, rfl, had, p0, p1⟩ := hat0.cells hjl hjl
            obtain ⟨bd, rfl, hbd, p2, p3⟩ := hat1.cells hjl hjl
            have p0' := (hwy.cell (p := ad.add (j * 2)) (Nat.lt_of_lt_of_le had hw.size)).trans p0
            have p1' := (hwy.cell (p := ⟨(ad.add (j * 2)).block, (ad.add (j * 2)).off + 1, none⟩) (Nat.lt_of_lt_of_le had hw.size)).trans p1
            have p2' := (hwy.cell (p := bd.add (j * 2)) (Nat.lt_of_lt_of_le hbd hw.size)).trans p2
            have p3' := (hwy.cell (p := ⟨(bd.add (j * 2)).block, (bd.add (j * 2)).off + 1, none⟩) (Nat.lt_of_lt_of_le hbd hw.size)).trans p3
            have hne := atr_neq
            clear p0 p1 p2 p3 g0 g1 hat0 hat1
            generalize tk.attrs[j] = at_ at *
            go_upto_region 11 with fail
            go_cut [96] (fun s96 wx => s96 = .bool false ∧ Below wr.heap.size wr wx)
            case first =>
              go_region
              all_goals
                go_wp2_with fail
                go_meet
                exact ⟨rfl, below_drewN (Below.refl _ _) _⟩
            case rest =>
              obtain ⟨rfl, b3⟩ := hcut
              go_wp2
              go_roundw
              case rel => exact ⟨j + 1, by go_num, by omega, bt hwy b3⟩
              case measure => simp [intOf]; omega
          · go_wp2
            go_roundw
            case rel => exact ⟨k + 1, by go_num, by omega, hw.trans (hwy.mono hw.size)⟩
            case measure => simp [intOf]; omega
    · go_wp2
      go_ret
      exact ⟨rfl, hw⟩
end Go.Proofs.Ytninjljkdbemkaa
namespace Go.Proofs.Ytninjljkdbemkaa

theorem spanL_app {p : UInt8 → Bool} : ∀ (v t : List UInt8), (∀ c ∈ v, p c = true) → spanL p (v ++ t) = v.length + spanL p t
  | [], t, _ => by simp
  | c :: v, t, h => by
    have h1 : p c = true := h c (by simp)
    rw [List.cons_append, spanL, h1, if_pos rfl, spanL_app v t (fun x hx => h x (by simp [hx])), List.length_cons]
    omega

theorem toks_one (v : List UInt8) (hv : ∀ c ∈ v, c ≠ 34 ∧ c ≠ 39) : toksL ([60, 97, 32, 120, 61, 34] ++ (v ++ [34, 62])) = [⟨1, [97], [([120], dec v)], []⟩] := by
  obtain ⟨l, hl⟩ : ∃ l : List UInt8, l = [60, 97, 32, 120, 61, 34] ++ (v ++ [34, 62]) := ⟨_, rfl⟩
  have hlen : l.length = 6 + (v.length + 2) := by rw [hl]; simp; omega
  have hd : ∀ k, k ≤ 6 → l.drop k = ([60, 97, 32, 120, 61, 34] : List UInt8).drop k ++ (v ++ [34, 62]) := fun k hk => by rw [hl, List.drop_append_of_le_length (by simpa using hk)]
  have hat : atL (l.drop 3) = (([120], dec v), 4 + v.length) := by
    have h2 : spanL (noq 34) (v ++ [34, 62]) = v.length := by
      rw [spanL_app v _ (fun c hc => by
        simp only [noq, bne_iff_ne]
        intro e
        have := hv c hc
        have e2 : c = 34 := UInt8.toNat_inj.1 e
        exact (hv c hc).1 e2)]
      rfl
    rw [hd _ (by decide)]
    show atL ([120, 61, 34] ++ (v ++ [34, 62])) = _
    have e1 : ([120, 61, 34] ++ (v ++ [34, 62]) : List UInt8).drop (2 + 1) = v ++ [34, 62] := rfl
    rw [atL_4 (l := [120, 61, 34] ++ (v ++ [34, 62])) (i := 1) (j := 1) (k := 2) (m := v.length) (q := 34) rfl rfl rfl (by simp) (by rfl) (by simp) (by rfl) (by decide) (by rw [e1]; exact h2.symm)]
    rw [if_neg (by simp; omega)]
    rw [e1, List.take_left]
    refine Prod.ext rfl ?_
    show 2 + 1 + v.length + 1 = 4 + v.length
    omega
  have hdp : l.drop (7 + v.length) = [62] := by
    rw [hl, List.drop_append, List.drop_eq_nil_of_le (by simp; omega), List.nil_append, List.drop_append, List.drop_eq_nil_of_le (by simp; omega), List.nil_append]
    have : 7 + v.length - ([60, 97, 32, 120, 61, 34] : List UInt8).length - v.length = 1 := by simp; omega
    rw [this]; rfl
  have hbeg : begF (l.length + 1) l 2 [] = some ([([120], dec v)], l.length) := by
    have e0 : l.drop 2 = ([60, 97, 32, 120, 61, 34] : List UInt8).drop 2 ++ (v ++ [34, 62]) := hd _ (by decide)
    have hj : 3 = 2 + spanL skB (l.drop 2) := by rw [e0]; rfl
    have hlt : 3 < l.length := by omega
    have hc : l[3].toNat ≠ 62 := by
      have : l[3]? = some 120 := by rw [hl]; rfl
      rw [List.getElem?_eq_getElem hlt] at this
      injection this with this
      rw [this]; decide
    rw [begF_go hj hlt hc, hat]
    have hp : 7 + v.length + 0 = (3 + (4 + v.length)) + spanL skB (l.drop (3 + (4 + v.length))) := by
      rw [show 3 + (4 + v.length) = 7 + v.length by omega, hdp]; rfl
    obtain ⟨f, hf⟩ : ∃ f, l.length = f + 1 := ⟨l.length - 1, by omega⟩
    have hlt2 : 7 + v.length + 0 < l.length := by omega
    have hc2 : l[7 + v.length + 0].toNat = 62 := by
      have h3 : (l.drop (7 + v.length))[0]? = some 62 := by rw [hdp]; rfl
      rw [List.getElem?_drop, List.getElem?_eq_getElem hlt2] at h3
      injection h3 with h3
      rw [h3]; rfl
    rw [hf]
    simp only [valL, Option.isSome_none, Bool.false_eq_true, if_false, List.nil_append]
    rw [begF_stop hp hlt2 hc2, ← hf]
    simp only [Option.some.injEq, Prod.mk.injEq, true_and]
    omega
  have hst : startsL l = true := by rw [hl]; rfl
  have h1 : l[1]? = some 97 := by rw [hl]; rfl
  have htag : tagL l = (⟨1, [97], [([120], dec v)], []⟩, l.length) := by
    rw [tag_4 hst h1 (by decide) (by decide)]
    have ht : titleL (l.drop 1) = 1 := by rw [hd _ (by decide)]; rfl
    unfold begL
    rw [ht, hbeg]
    simp only []
    rw [hd _ (by decide)]
    rfl
  have hne : l ≠ [] := by
    intro e
    rw [e, List.length_nil] at hlen
    omega
  rw [← hl, toksL_round hne]
  have hr : tokRound l = ([⟨1, [97], [([120], dec v)], []⟩], []) := by
    unfold tokRound
    rw [htag]
    have hn0 : l.length ≠ 0 := by omega
    simp only [hn0, if_false]
    rw [if_neg (by decide), if_neg (by decide), List.drop_length]
  rw [hr, toksL_nil]
  rfl

theorem toks_two (v : List UInt8) (hv : ∀ c ∈ v, c ≠ 34 ∧ c ≠ 39) : toksL ([60, 65, 32, 10, 47, 32, 61, 32, 88, 9, 61, 32, 39] ++ (v ++ [39, 32, 47, 32, 62])) = [⟨1, [97], [([120], dec v)], []⟩] := by
  obtain ⟨l, hl⟩ : ∃ l : List UInt8, l = [60, 65, 32, 10, 47, 32, 61, 32, 88, 9, 61, 32, 39] ++ (v ++ [39, 32, 47, 32, 62]) := ⟨_, rfl⟩
  have hlen : l.length = 13 + (v.length + 5) := by rw [hl]; simp; omega
  have hd : ∀ k, k ≤ 13 → l.drop k = ([60, 65, 32, 10, 47, 32, 61, 32, 88, 9, 61, 32, 39] : List UInt8).drop k ++ (v ++ [39, 32, 47, 32, 62]) := fun k hk => by rw [hl, List.drop_append_of_le_length (by simpa using hk)]
  have hat : atL (l.drop 8) = (([120], dec v), 6 + v.length) := by
    have h2 : spanL (noq 39) (v ++ [39, 32, 47, 32, 62]) = v.length := by
      rw [spanL_app v _ (fun c hc => by
        simp only [noq, bne_iff_ne]
        intro e
        have := hv c hc
        have e2 : c = 39 := UInt8.toNat_inj.1 e
        exact (hv c hc).2 e2)]
      rfl
    rw [hd _ (by decide)]
    show atL ([88, 9, 61, 32, 39] ++ (v ++ [39, 32, 47, 32, 62])) = _
    have e1 : ([88, 9, 61, 32, 39] ++ (v ++ [39, 32, 47, 32, 62]) : List UInt8).drop (4 + 1) = v ++ [39, 32, 47, 32, 62] := rfl
    rw [atL_4 (l := [88, 9, 61, 32, 39] ++ (v ++ [39, 32, 47, 32, 62])) (i := 1) (j := 2) (k := 4) (m := v.length) (q := 39) rfl rfl rfl (by simp) (by rfl) (by simp) (by rfl) (by decide) (by rw [e1]; exact h2.symm)]
    rw [if_neg (by simp; omega)]
    rw [e1, List.take_left]
    refine Prod.ext rfl ?_
    show 4 + 1 + v.length + 1 = 6 + v.length
    omega
  have hdp : l.drop (14 + v.length) = [32, 47, 32, 62] := by
    rw [hl, List.drop_append, List.drop_eq_nil_of_le (by simp; omega), List.nil_append, List.drop_append, List.drop_eq_nil_of_le (by simp; omega), List.nil_append]
    have : 14 + v.length - ([60, 65, 32, 10, 47, 32, 61, 32, 88, 9, 61, 32, 39] : List UInt8).length - v.length = 1 := by simp; omega
    rw [this]; rfl
  have hbeg : begF (l.length + 1) l 2 [] = some ([([120], dec v)], l.length) := by
    have e0 : l.drop 2 = ([60, 65, 32, 10, 47, 32, 61, 32, 88, 9, 61, 32, 39] : List UInt8).drop 2 ++ (v ++ [39, 32, 47, 32, 62]) := hd _ (by decide)
    have hj : 8 = 2 + spanL skB (l.drop 2) := by rw [e0]; rfl
    have hlt : 8 < l.length := by omega
    have hc : l[8].toNat ≠ 62 := by
      have : l[8]? = some 88 := by rw [hl]; rfl
      rw [List.getElem?_eq_getElem hlt] at this
      injection this with this
      rw [this]; decide
    rw [begF_go hj hlt hc, hat]
    have hp : 14 + v.length + 3 = (8 + (6 + v.length)) + spanL skB (l.drop (8 + (6 + v.length))) := by
      rw [show 8 + (6 + v.length) = 14 + v.length by omega, hdp]; rfl
    obtain ⟨f, hf⟩ : ∃ f, l.length = f + 1 := ⟨l.length - 1, by omega⟩
    have hlt2 : 14 + v.length + 3 < l.length := by omega
    have hc2 : l[14 + v.length + 3].toNat = 62 := by
      have h3 : (l.drop (14 + v.length))[3]? = some 62 := by rw [hdp]; rfl
      rw [List.getElem?_drop, List.getElem?_eq_getElem hlt2] at h3
      injection h3 with h3
      rw [h3]; rfl
    rw [hf]
    simp only [valL, Option.isSome_none, Bool.false_eq_true, if_false, List.nil_append]
    rw [begF_stop hp hlt2 hc2, ← hf]
    simp only [Option.some.injEq, Prod.mk.injEq, true_and]
    omega
  have hst : startsL l = true := by rw [hl]; rfl
  have h1 : l[1]? = some 65 := by rw [hl]; rfl
  have htag : tagL l = (⟨1, [97], [([120], dec v)], []⟩, l.length) := by
    rw [tag_4 hst h1 (by decide) (by decide)]
    have ht : titleL (l.drop 1) = 1 := by rw [hd _ (by decide)]; rfl
    unfold begL
    rw [ht, hbeg]
    simp only []
    rw [hd _ (by decide)]
    rfl
  have hne : l ≠ [] := by
    intro e
    rw [e, List.length_nil] at hlen
    omega
  rw [← hl, toksL_round hne]
  have hr : tokRound l = ([⟨1, [97], [([120], dec v)], []⟩], []) := by
    unfold tokRound
    rw [htag]
    have hn0 : l.length ≠ 0 := by omega
    simp only [hn0, if_false]
    rw [if_neg (by decide), if_neg (by decide), List.drop_length]
  rw [hr, toksL_nil]
  rfl
end Go.Proofs.Ytninjljkdbemkaa
