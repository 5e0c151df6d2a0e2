/- Tokens of written tags and texts (plain), and strainerref04.Text of one text. Plain: a name's beginning tags, one behind the other, ahead of a text without <: made right, and their tokens. The condition of TopDeep's card: three tables of the library as the program's text lays them; a world that meets it; the bridge from a walk to such a row that also tells the world's shape. The library's own variable holds some number: of every world of the right shape. The facts about TopDeep's row and the program, one by one. -/
import Derived.HandedShaped
import Derived.JoinedOf
import Derived.LaidHandle
import Derived.LaidLaws
import Derived.LaidMore
import Derived.MakeChecks
import Derived.PinnedBridge
import Derived.SevenTiedAt
import Derived.Shelf.Vars
import Derived.Test.YtnkelhmjkmeilaaGreatDoorRows
import Derived.Test.YtnkelhmjkmeilaaGreatDoorTie
import Derived.Test.YtnkelhmjkmeilaaGreatDoorT06
import Derived.Test.YtnkelhmjkmeilaaGreatDoorT12
import Derived.Test.YtnkelhmjkmeilaaGreatDoorT13
import Derived.Test.YtnkelhmjkmeilaaGreatDoorT09
import Derived.Test.YtnkelhmjkmeilaaGreatDoorT10
section
namespace Go.Proofs.YtnkelhmjkmeilaaGreatDoor
open Go.RowKit
theorem cat_str (a b : List UInt8) : (⟨a.toArray⟩ : ByteArray) ++ ⟨b.toArray⟩ = ⟨(a ++ b).toArray⟩ := by
  apply ByteArray.ext
  simp
theorem spanL_app {p : UInt8 → Bool} : ∀ (v t : List UInt8), (∀ c ∈ v, p c = true) → spanL p (v ++ t) = v.length + spanL p t
  | [], t, _ => by simp
  | c :: v, t, h => by
    have h1 : p c = true := h c (by simp)
    rw [List.cons_append, spanL, h1, if_pos rfl, spanL_app v t (fun x hx => h x (by simp [hx])), List.length_cons]
    omega
theorem charL_bare : ∀ {l : List UInt8}, (∀ x ∈ l, x ≠ 60) → charL l = l.length
  | [], _ => rfl
  | c :: t, h => by
    have h0 : startsL (c :: t) = false := by
      rw [← Bool.not_eq_true]
      intro hs
      have := startsL_head hs
      simp at this
      exact h c (by simp) this
    rw [charL, h0, charL_bare (fun x hx => h x (by simp [hx]))]
    simp
    omega
theorem starts_bare {l : List UInt8} (h : ∀ x ∈ l, x ≠ 60) : startsL l = false := by
  rw [← Bool.not_eq_true]
  intro hs
  have := startsL_head hs
  exact h 60 (List.mem_of_getElem? this) rfl
theorem toksL_bare {l : List UInt8} (h : ∀ x ∈ l, x ≠ 60) (hl : l ≠ []) : toksL l = [charTk (dec l)] := by
  rw [toksL_round hl]
  have ht := tag_1 (starts_bare h)
  have hr : tokRound l = ([charTk (dec l)], []) := by
    unfold tokRound
    rw [ht]
    simp only [if_true, charL_bare h, List.take_length, List.drop_length]
  rw [hr, toksL_nil]
  rfl
set_option maxHeartbeats 1000000 in
set_option maxRecDepth 100000 in
theorem RefOne_text {w : World} (tx nm : List UInt8) (A B : Value) (hl : tx.length ≤ 1000000) :
    Calls Tryz.prog 13 #[.agg #[.int .i64 2, .string ⟨nm.toArray⟩, A, .string ⟨tx.toArray⟩, B], .bool false] w fun e w' => e = .returned (.string ⟨(esc false tx).toArray⟩) ∧ Below w.heap.size w w' := by
  go_enter Tryz.func13, Tryz.ntmps13
  go_wp2_with fail
  refine (REscape_any (IsStr.mk tx) (by omega) false).mono ?_
  rintro e W1 ⟨s, rfl, hs, b1⟩
  obtain rfl := hs.to
  have ba := (Below.refl w.heap.size w).alloc (Nat.le_refl _) (.cells #[.int .i64 2, .string ⟨nm.toArray⟩, A, .string ⟨tx.toArray⟩, B] 28)
  go_wp2
  go_ret
  exact ⟨rfl, ba.trans (b1.mono (by simp))⟩
set_option maxHeartbeats 1000000 in
set_option maxRecDepth 100000 in
theorem RefText_text {w : World} {A : Option Addr} {c : Nat} {tx : List UInt8} (hN : Nodes w w.heap.size A 1 [.mk 2 [] [] tx []]) (_hc : 1 ≤ c) (hl : tx.length ≤ 1000000) :
    Calls Tryz.prog 7 #[.slice A 1 c] w fun e w' => e = .returned (.string ⟨(esc false tx).toArray⟩) ∧ Below w.heap.size w w' := by
  obtain ⟨a, rfl, hna⟩ := hN.node (k := 0) (by decide) (by simp)
  rw [Nat.zero_mul, add0, List.getElem_cons_zero] at hna
  have gk := hna.k
  have gn := hna.nm
  have gt := hna.tx
  obtain ⟨A2, c2, ga, hac, hat⟩ := hna.ats
  obtain ⟨A3, c3, gd, hdc, hkd⟩ := hna.kd
  simp only [Nd.kind, Nd.name, Nd.text, Nd.attrs, Nd.kids] at gk gn gt ga gd
  have hcat : (⟨#[]⟩ : ByteArray) ++ ⟨(esc false tx).toArray⟩ = ⟨(esc false tx).toArray⟩ := by
    have := cat_str [] (esc false tx)
    simpa using this
  have hlen := (esc_length false tx).2
  go_enter Tryz.func7, Tryz.ntmps7
  go_wp2_with fail
  go_loopw [3, 4] (fun sv' iv wr => ∃ k : Nat, sv' = .string ⟨(if k = 0 then [] else esc false tx).toArray⟩ ∧ iv = .int .i64 k ∧ k ≤ 1 ∧ Below w.heap.size w wr) (fun _ iv _ => 1 - (intOf iv).toNat)
  case atStart => exact ⟨0, rfl, rfl, Nat.zero_le _, Below.refl _ _⟩
  case round =>
    obtain ⟨k, rfl, rfl, hk, hb⟩ := hrel
    by_cases hk0 : k = 0
    · subst hk0
      have hna2 := hna.keep hb
      have gk := hna2.k
      have gn := hna2.nm
      have gt := hna2.tx
      have ga2 := (hb.cell (p := ⟨a.block, a.off + 2, none⟩) hna.1).trans ga
      have gd2 := (hb.cell (p := ⟨a.block, a.off + 4, none⟩) hna.1).trans gd
      simp only [Nd.kind, Nd.name, Nd.text] at gk gn gt
      rw [if_pos rfl]
      clear hna hna2 ga gd hat hkd hN
      go_wp2_with fail
      refine (RefOne_text tx [] _ _ (by omega)).mono ?_
      rintro e W1 ⟨rfl, b1⟩
      have B1 := hb.trans (b1.mono hb.size)
      go_wp2
      go_roundw
      case rel => exact ⟨1, rfl, by go_num, Nat.le_refl _, B1⟩
      case measure => simp [intOf]
    · obtain rfl : k = 1 := by omega
      rw [if_neg (by decide)]
      clear hna ga gd hat hkd hN
      go_wp2
      go_ret
      exact ⟨rfl, hb⟩
theorem lower_self {c : UInt8} (h : ¬ (65 ≤ (c.toNat : Int) ∧ (c.toNat : Int) ≤ 90)) : lower c = c := by
  have h1 := lower_int c
  rw [if_neg h] at h1
  exact UInt8.toNat_inj.1 (by omega)
theorem lowL_self {l : List UInt8} (h : ∀ c ∈ l, ¬ (65 ≤ (c.toNat : Int) ∧ (c.toNat : Int) ≤ 90)) : lowL l = l := by
  unfold lowL
  conv => rhs; rw [← List.map_id l]
  exact List.map_congr_left fun c hc => lower_self (h c hc)
theorem attrd_parts {l : List UInt8} (h : attrdL l = true) : (∀ c ∈ l, badB c = false) ∧ l ≠ [] := by
  simp only [attrdL, Bool.and_eq_true, List.all_eq_true, Bool.not_eq_true'] at h
  refine ⟨h.1.2, fun e => ?_⟩
  rw [e] at h
  simp at h
theorem bad_no {c : UInt8} (h : badB c = false) : anB c = true ∧ skB c = false ∧ c.toNat ≠ 62 ∧ ¬ (65 ≤ (c.toNat : Int) ∧ (c.toNat : Int) ≤ 90) := by
  rw [← Bool.not_eq_true, badB_iff] at h
  refine ⟨?_, ?_, by omega, by omega⟩
  · simp only [anB, blk, Bool.and_eq_true, Bool.not_eq_true', bne_iff_ne, Bool.or_eq_false_iff, beq_eq_false_iff_ne]
    omega
  · simp only [skB, blk, Bool.or_eq_false_iff, beq_eq_false_iff_ne]
    omega
theorem atL_written {n v R : List UInt8} (hn : attrdL n = true) : atL (n ++ ([61, 34] ++ (esc true v ++ (34 :: R)))) = ((n, v), n.length + 2 + (esc true v).length + 1) := by
  obtain ⟨h1, h2⟩ := attrd_parts hn
  have hd := dec_esc_self true v
  have hb := esc_bare true v
  generalize esc true v = e at *
  have hl : (n ++ ([61, 34] ++ (e ++ (34 :: R)))).length = n.length + (2 + (e.length + (1 + R.length))) := by simp; omega
  have d0 : (n ++ ([61, 34] ++ (e ++ (34 :: R)))).drop n.length = [61, 34] ++ (e ++ (34 :: R)) := List.drop_left
  have d1 : (n ++ ([61, 34] ++ (e ++ (34 :: R)))).drop (n.length + 1) = 34 :: (e ++ (34 :: R)) := by rw [← List.drop_drop, d0]; rfl
  have d2 : (n ++ ([61, 34] ++ (e ++ (34 :: R)))).drop (n.length + 1 + 1) = e ++ (34 :: R) := by rw [← List.drop_drop, d1]; rfl
  have hi : n.length = spanL anB (n ++ ([61, 34] ++ (e ++ (34 :: R)))) := by rw [spanL_app n _ (fun c hc => (bad_no (h1 c hc)).1)]; rfl
  have hm : e.length = spanL (noq 34) ((n ++ ([61, 34] ++ (e ++ (34 :: R)))).drop (n.length + 1 + 1)) := by
    rw [d2, spanL_app e _ (fun c hc => by
      simp only [noq, bne_iff_ne]
      intro x
      exact (hb c hc).2.2 rfl (UInt8.toNat_inj.1 x))]
    rfl
  have hx : n.length < (n ++ ([61, 34] ++ (e ++ (34 :: R)))).length := by omega
  have hy : n.length + 1 < (n ++ ([61, 34] ++ (e ++ (34 :: R)))).length := by omega
  have g0 : (n ++ ([61, 34] ++ (e ++ (34 :: R))))[n.length].toNat = 61 := by
    rw [List.getElem_append_right (Nat.le_refl _)]
    simp
  have g1 : (n ++ ([61, 34] ++ (e ++ (34 :: R))))[n.length + 1] = 34 := by
    rw [List.getElem_append_right (by omega)]
    simp
  rw [atL_4 (i := n.length) (j := n.length) (k := n.length + 1) (m := e.length) (q := 34) hi (by rw [d0]; rfl) (by rw [d1]; rfl) hx g0 hy g1 (Or.inl rfl) hm, if_neg (by omega), d2, List.take_left, List.take_left, hd,
    lowL_self (fun c hc => (bad_no (h1 c hc)).2.2.2)]
def Unlike : List Atr → List Atr → Prop
  | _, [] => True
  | acc, a :: l => (valL acc a.1).isSome = false ∧ Unlike (acc ++ [a]) l
theorem begF_written : ∀ (ats : List Atr) (f : Nat) (pre rest : List UInt8) (acc : List Atr), (∀ a ∈ ats, attrdL a.1 = true) → Unlike acc ats → ats.length < f →
    begF f (pre ++ (ats.flatMap atrL ++ (62 :: rest))) pre.length acc = some (acc ++ ats, pre.length + (ats.flatMap atrL).length + 1)
  | [], f, pre, rest, acc, _, _, hf => by
    obtain ⟨f, rfl⟩ : ∃ g, f = g + 1 := ⟨f - 1, by simp at hf; omega⟩
    simp only [List.flatMap_nil, List.nil_append, List.append_nil, List.length_nil, Nat.add_zero]
    refine begF_stop (j := pre.length) ?_ (by simp) (by simp)
    rw [List.drop_left]
    rfl
  | a :: ats, f, pre, rest, acc, ha, hu, hf => by
    obtain ⟨f, rfl⟩ : ∃ g, f = g + 1 := ⟨f - 1, by simp at hf; omega⟩
    have hn := ha a (by simp)
    obtain ⟨h1, h2⟩ := attrd_parts hn
    obtain ⟨c, t, hct⟩ := List.exists_cons_of_ne_nil h2
    have hc := bad_no (h1 c (by rw [hct]; simp))
    have hR : pre ++ ((a :: ats).flatMap atrL ++ (62 :: rest)) = (pre ++ [32]) ++ (a.1 ++ ([61, 34] ++ (esc true a.2 ++ (34 :: (ats.flatMap atrL ++ (62 :: rest)))))) := by
      simp [atrL]
    have hR2 : pre ++ ((a :: ats).flatMap atrL ++ (62 :: rest)) = (pre ++ atrL a) ++ (ats.flatMap atrL ++ (62 :: rest)) := by simp
    have hd1 : (pre ++ ((a :: ats).flatMap atrL ++ (62 :: rest))).drop (pre.length + 1) = a.1 ++ ([61, 34] ++ (esc true a.2 ++ (34 :: (ats.flatMap atrL ++ (62 :: rest))))) := by
      rw [hR, show pre.length + 1 = (pre ++ [32]).length by simp, List.drop_left]
    have hsk : pre.length + 1 = pre.length + spanL skB ((pre ++ ((a :: ats).flatMap atrL ++ (62 :: rest))).drop pre.length) := by
      rw [List.drop_left]
      have : (a :: ats).flatMap atrL ++ (62 :: rest) = 32 :: (c :: (t ++ ([61, 34] ++ (esc true a.2 ++ (34 :: (ats.flatMap atrL ++ (62 :: rest))))))) := by
        simp [atrL, hct]
      rw [this, spanL, if_pos (by rfl), spanL, if_neg (by rw [hc.2.1]; simp)]
    have hlt : pre.length + 1 < (pre ++ ((a :: ats).flatMap atrL ++ (62 :: rest))).length := by
      rw [hR]; simp [hct]
    have hget : (pre ++ ((a :: ats).flatMap atrL ++ (62 :: rest)))[pre.length + 1].toNat ≠ 62 := by
      have h3 : (pre ++ ((a :: ats).flatMap atrL ++ (62 :: rest)))[pre.length + 1]? = some c := by
        rw [← List.head?_drop, hd1, hct]; rfl
      rw [List.getElem?_eq_getElem hlt] at h3
      injection h3 with h3
      rw [h3]; exact hc.2.2.1
    rw [begF_go hsk hlt hget, hd1, atL_written hn]
    simp only []
    have hu1 : (valL acc a.1).isSome = false := hu.1
    rw [hu1, if_neg (by simp), hR2]
    have hlen : pre.length + 1 + (a.1.length + 2 + (esc true a.2).length + 1) = (pre ++ atrL a).length := by simp [atrL]; omega
    rw [hlen, begF_written ats f (pre ++ atrL a) rest (acc ++ [(a.1, a.2)]) (fun x hx => ha x (by simp [hx])) hu.2 (by simp at hf; omega)]
    simp only [List.append_assoc, List.length_append, List.flatMap_cons, List.cons_append, List.nil_append, Option.some.injEq, Prod.mk.injEq, true_and]
    omega
theorem name_parts {n : List UInt8} (h : namedL n = true) : ∃ c t, n = c :: t ∧ lett c = true ∧ (∀ x ∈ n, nmB x = true ∧ x.toNat ≠ 62 ∧ ¬ (65 ≤ (x.toNat : Int) ∧ (x.toNat : Int) ≤ 90)) ∧ c.toNat ≠ 47 ∧ ¬ (c.toNat = 33 ∨ c.toNat = 63) := by
  cases n with
  | nil => simp [namedL] at h
  | cons c t =>
    simp only [namedL, Bool.and_eq_true, List.all_eq_true] at h
    have hc := h.1
    simp only [smallB, Bool.and_eq_true, decide_eq_true_eq] at hc
    refine ⟨c, t, rfl, ?_, ?_, by omega, by omega⟩
    · simp only [lett, Bool.or_eq_true, Bool.and_eq_true, decide_eq_true_eq]
      omega
    · intro x hx
      have h2 := h.2 x hx
      simp only [nameB, smallB, Bool.or_eq_true, Bool.and_eq_true, decide_eq_true_eq, beq_iff_eq] at h2
      have h45 : x = 45 → x.toNat = 45 := fun e => by rw [e]; rfl
      refine ⟨?_, ?_, ?_⟩
      · simp only [nmB, lett, Bool.or_eq_true, Bool.and_eq_true, decide_eq_true_eq, beq_iff_eq]
        rcases h2 with (h2 | h2) | h2
        · omega
        · omega
        · have := h45 h2; omega
      · rcases h2 with (h2 | h2) | h2
        · omega
        · omega
        · have := h45 h2; omega
      · rcases h2 with (h2 | h2) | h2
        · omega
        · omega
        · have := h45 h2; omega
theorem title_written {n R : List UInt8} (h : namedL n = true) (hR : spanL nmB R = 0) : titleL (n ++ R) = n.length := by
  obtain ⟨c, t, rfl, hc, ha, _, _⟩ := name_parts h
  rw [List.cons_append, titleL, if_pos hc, ← List.cons_append, spanL_app _ _ (fun x hx => (ha x hx).1), hR, Nat.add_zero]
theorem ats_head (ats : List Atr) (rest : List UInt8) : spanL nmB (ats.flatMap atrL ++ (62 :: rest)) = 0 := by
  cases ats with
  | nil => rfl
  | cons a l => rfl
theorem tag_opened {n rest : List UInt8} {ats : List Atr} (h : namedL n = true) (ha : ∀ a ∈ ats, attrdL a.1 = true) (hu : Unlike [] ats) :
    tagL (60 :: (n ++ (ats.flatMap atrL ++ (62 :: rest)))) = (⟨1, n, ats, []⟩, 1 + n.length + (ats.flatMap atrL).length + 1) := by
  have ht := title_written (R := ats.flatMap atrL ++ (62 :: rest)) h (ats_head ats rest)
  obtain ⟨c, t, hct, hc, hx, h47, h33⟩ := name_parts h
  have hst : startsL (60 :: (n ++ (ats.flatMap atrL ++ (62 :: rest)))) = true := by
    rw [hct]; simp [startsL, hc]
  have h1 : (60 :: (n ++ (ats.flatMap atrL ++ (62 :: rest))))[1]? = some c := by rw [hct]; rfl
  rw [tag_4 hst h1 h47 h33]
  unfold begL
  rw [List.drop_succ_cons, List.drop_zero, ht]
  have hlen : ∀ l : List Atr, l.length ≤ (l.flatMap atrL).length := by
    intro l
    induction l with
    | nil => exact Nat.zero_le _
    | cons a l ih => simp only [List.flatMap_cons, List.length_append, List.length_cons, atrL, List.length_nil]; omega
  have hl := hlen ats
  have hb := begF_written ats ((60 :: (n ++ (ats.flatMap atrL ++ (62 :: rest)))).length + 1) (60 :: n) rest [] ha hu (by simp only [List.length_cons, List.length_append]; omega)
  rw [List.cons_append] at hb
  rw [show (1 + n.length) = (60 :: n : List UInt8).length by simp; omega, hb]
  simp only [List.nil_append, List.take_left, List.length_cons]
  rw [lowL_self (fun x hx' => (hx x hx').2.2)]
theorem toks_tag {l : List UInt8} {t : Tk} {k : Nat} (h : tagL l = (t, k)) (hk : k ≠ 0) (h0 : t.kind ≠ 0) (hr : ¬ (t.kind = 1 ∧ rawL t.name = true)) : toksL l = t :: toksL (l.drop k) := by
  have hne : l ≠ [] := by
    intro e
    rw [e] at h
    have : tagL [] = (noTk, 0) := rfl
    rw [this] at h
    injection h with _ h
    exact hk h.symm
  rw [toksL_round hne]
  have : tokRound l = ([t], l.drop k) := by
    unfold tokRound
    rw [h]
    simp only []
    rw [if_neg hk, if_neg h0, if_neg hr]
  rw [this]
  rfl
end Go.Proofs.YtnkelhmjkmeilaaGreatDoor
end
section
namespace Go.Proofs.YtnkelhmjkmeilaaGreatDoor
open Go.Lib
def begT (nm : List UInt8) : List UInt8 := 60 :: (nm ++ [62])
def begsL (nm : List UInt8) : Nat → List UInt8
  | 0 => []
  | n + 1 => begsL nm n ++ begT nm
theorem begsL_front (nm : List UInt8) : ∀ n, begsL nm (n + 1) = begT nm ++ begsL nm n
  | 0 => by simp [begsL]
  | n + 1 => by
    have ih := begsL_front nm n
    rw [begsL, ih, List.append_assoc, ← ih]
    rfl
theorem begsL_len (nm : List UInt8) : ∀ n, (begsL nm n).length = n * (nm.length + 2)
  | 0 => by simp [begsL]
  | n + 1 => by
    rw [begsL, List.length_append, begsL_len nm n]
    simp only [begT, List.length_cons, List.length_append, List.length_nil, Nat.add_mul]
    omega
theorem right_ascii (c : UInt8) (t : List UInt8) (h : c.toNat < 128) (h0 : c.toNat ≠ 0) (h13 : c.toNat ≠ 13) : right (c :: t) = c :: right t := by
  unfold right
  rw [runes_step (c :: t) (by simp), decodeL_ascii c t h]
  simp only [List.drop_succ_cons, List.drop_zero]
  rw [fix]
  have e : ((c.toNat : Int) == 13) = false := by rw [beq_eq_false_iff_ne]; omega
  rw [e, if_neg (by simp), if_neg (by omega), if_neg (by omega)]
  rw [List.singleton_append, enc_cons, ascii_enc c h]
  rfl
theorem right_low : ∀ (l t : List UInt8), (∀ c ∈ l, c.toNat < 128 ∧ c.toNat ≠ 0 ∧ c.toNat ≠ 13) → right (l ++ t) = l ++ right t
  | [], _, _ => rfl
  | c :: l, t, h => by
    have h1 := h c (by simp)
    rw [List.cons_append, right_ascii c (l ++ t) h1.1 h1.2.1 h1.2.2, right_low l t (fun x hx => h x (by simp [hx]))]
    rfl
theorem begs_low {nm : List UInt8} (h : namedL nm = true) : ∀ n, ∀ c ∈ begsL nm n, c.toNat < 128 ∧ c.toNat ≠ 0 ∧ c.toNat ≠ 13
  | 0, c, hc => by cases hc
  | n + 1, c, hc => by
    rw [begsL, List.mem_append] at hc
    rcases hc with hc | hc
    · exact begs_low h n c hc
    · obtain ⟨_, _, _, _, hx, _, _⟩ := name_parts h
      unfold begT at hc
      rcases List.mem_cons.1 hc with rfl | hc
      · decide
      · rcases List.mem_append.1 hc with hc | hc
        · have h1 := (hx c hc).1
          have h2 := nmB_high c
          refine ⟨?_, ?_, ?_⟩
          · rcases Nat.lt_or_ge c.toNat 128 with h3 | h3
            · exact h3
            · rw [h2 h3] at h1; cases h1
          · intro e
            simp [nmB, lett, e] at h1
          · intro e
            simp [nmB, lett, e] at h1
        · rw [List.mem_singleton] at hc
          subst hc
          decide
theorem runes_bare : ∀ l : List UInt8, (∀ x ∈ l, x ≠ 60) → ∀ r ∈ runes l, r ≠ 60 := by
  intro l
  refine byRunes (P := fun l => (∀ x ∈ l, x ≠ 60) → ∀ r ∈ runes l, r ≠ 60) ?_ ?_ l
  · intro _ r hr
    cases hr
  · intro l hne ih h r hr
    rw [runes_step l hne, List.mem_cons] at hr
    rcases hr with rfl | hr
    · cases l with
      | nil => exact absurd rfl hne
      | cons c t =>
        rcases decode_head c t with ⟨h1, h2⟩ | ⟨h1, h2, _⟩
        · rw [h2]
          have h3 := h c (by simp)
          intro e
          refine h3 ?_
          have e' : (c.toNat : Int) = 60 := by simpa using e
          have : c.toNat = 60 := by omega
          exact UInt8.toNat_inj.1 this
        · omega
    · exact ih (fun x hx => h x (List.mem_of_mem_drop hx)) r hr
theorem fix_bare : ∀ (b : Bool) (l : List Int), (∀ r ∈ l, r ≠ 60) → ∀ r ∈ fix b l, r ≠ 60
  | _, [], _, r, hr => by cases hr
  | b, a :: l, h, r, hr => by
    rw [fix, List.mem_append] at hr
    rcases hr with hr | hr
    · split at hr
      · cases hr
      · rw [List.mem_singleton] at hr
        subst hr
        have := h a (by simp)
        split
        · decide
        · split
          · decide
          · exact this
    · exact fix_bare _ l (fun x hx => h x (by simp [hx])) r hr
theorem right_bare {l : List UInt8} (h : ∀ x ∈ l, x ≠ 60) : ∀ x ∈ right l, x ≠ 60 := by
  intro x hx
  unfold right at hx
  obtain ⟨r, hr, hc⟩ := List.mem_flatMap.1 hx
  have h1 := fix_bare false _ (runes_bare l h) r hr
  have h2 := fix_ok false _ (runes_ok l) r hr
  rcases enc_bytes r h2.1 with ⟨c, _, h4, h5⟩ | ⟨_, h4⟩
  · rw [h5, List.mem_singleton] at hc
    subst hc
    intro e
    subst e
    exact h1 h4.symm
  · have := h4 x hc
    intro e
    subst e
    revert this
    decide
theorem right_ne {l : List UInt8} (h : l ≠ []) : right l ≠ [] := by
  unfold right
  rw [runes_step l h, fix, if_neg (by simp), List.singleton_append, enc_cons]
  exact encodeRune_ne _ _
theorem dec_nz {l : List UInt8} (h : l ≠ []) : dec l ≠ [] := by
  cases l with
  | nil => exact absurd rfl h
  | cons c t =>
    by_cases hc : c = 38
    · subst hc
      by_cases ho : 0 < (one (38 :: t)).2
      · rw [dec_ref t ho]; exact encodeRune_ne _ _
      · rw [dec_amp t ho]; simp
    · rw [dec_other c t hc]; simp
theorem begs_tag {nm t : List UInt8} (h : namedL nm = true) (hr : rawL nm = false) : toksL (begT nm ++ t) = ⟨1, nm, [], []⟩ :: toksL t := by
  have e : begT nm ++ t = 60 :: (nm ++ (([] : List Atr).flatMap atrL ++ (62 :: t))) := by simp [begT]
  rw [e, toks_tag (tag_opened (ats := []) h (fun a ha => by cases ha) trivial) (by omega) (by show (1 : Int) ≠ 0; decide) (by simp [hr])]
  congr 2
  have e2 : (60 :: (nm ++ (([] : List Atr).flatMap atrL ++ (62 :: t)))) = begT nm ++ t := e.symm
  rw [e2, show 1 + nm.length + (([] : List Atr).flatMap atrL).length + 1 = (begT nm).length by simp [begT]; omega, List.drop_left]
theorem begs_toks {nm : List UInt8} (h : namedL nm = true) (hr : rawL nm = false) (t : List UInt8) : ∀ n, toksL (begsL nm n ++ t) = List.replicate n ⟨1, nm, [], []⟩ ++ toksL t
  | 0 => rfl
  | n + 1 => by
    rw [begsL_front, List.append_assoc, begs_tag h hr, begs_toks h hr t n]
    rfl
def deepIn (x : List UInt8) : List Tk := if x = [] then [] else [charTk (dec (right (esc false x)))]
theorem deep_toks {nm : List UInt8} (h : namedL nm = true) (hr : rawL nm = false) (x : List UInt8) (n : Nat) :
    toksL (right (begsL nm n ++ esc false x)) = List.replicate n ⟨1, nm, [], []⟩ ++ deepIn x := by
  rw [right_low _ _ (begs_low h n), begs_toks h hr]
  congr 1
  unfold deepIn
  by_cases hx : x = []
  · subst hx
    rfl
  · rw [if_neg hx]
    have h1 := (esc_length false x).1
    have hne : esc false x ≠ [] := by
      intro e
      rw [e] at h1
      exact hx (List.eq_nil_of_length_eq_zero (by simpa using h1))
    exact toksL_bare (right_bare fun y hy => (esc_bare false x y hy).1) (right_ne hne)
end Go.Proofs.YtnkelhmjkmeilaaGreatDoor
end
section
namespace Go.Proofs.YtnkelhmjkmeilaaGreatDoor
open Go.ChangeShapes Go.WideShapes Go.ChangeAt Go.RowKit
def laid3 : List (String × DataW Unit) := [("math/bits.deBruijn32tab", Rows.laid_math_bits_deBruijn32tab), ("math/bits.deBruijn64tab", Rows.laid_math_bits_deBruijn64tab), ("internal/strconv.uint64pow10", Rows.laid_internal_strconv_uint64pow10)]
noncomputable def laidWorld (os : Os) : World := World.doorLaid Tryz.prog 400 os
theorem laidWorld_met (os : Os) (args : Array Value) : laidMetH Tryz.prog laid3 ((laidWorld os).forCall (fun _ _ => 0) ⟨#[], args, []⟩).memory :=
  laidMetH_of_parts3 (fuel := 8) (laidMet_of_run' 8 (by kernel_rfl) (by kernel_rfl)) (by kernel_rfl) (by kernel_rfl)
section
variable {H : Type} {enc : TypeId × Value → H}
theorem handed_and_shaped {a : Assume} {C : Checked} {os : Os} {f : FuncId} {fn : Func} {s : ChangeSpec} {conds : List PathCond} {apart fresh handsOn again : Bool} {X : World → Array Value → Prop}
    (hX : ∀ (w w' : World) (args : Array Value), w.heap = w'.heap → X w args → X w' args)
    (own : ownKnob C.prog.godebug = none) (started : os.Started) (noInit : C.prog.inits.idxOf? f = none) (hfn : C.prog.funcs[f]? = some fn)
    (witness : ∃ (w : World) (tape : Tape) (i : Input), w.os = os ∧ (w.forCall tape i).Shaped C.prog ∧ i.vars = [] ∧ Input.okWide C.prog (w.forCall tape i) .any w.heap.size f i ∧
      ((s.pre enc C.prog fn conds apart (w.forCall tape i).memory i.args ∧ X (w.forCall tape i).memory i.args) ∧ sizedMet enc C.prog fn (OpenSpec.ofChange s) apart (w.forCall tape i).memory i.args) ∧ a.holds C.prog (lone (Frame.enter C.prog f i.args .normal) [] (w.forCall tape i)))
    (contract : ∀ (W : World) (base : Nat) (args : Array Value) (ds gs : List (DataW H)) (before : List MemPlace),
      (∀ (j : Nat) t v, fn.params[j]? = some t → args[j]? = some v → Value.okWide C.prog W .any base t v) →
      DataW.Whole enc C.prog fn.params.toList s.vars apart W args.toList ds gs before →
      W.ShapedOpen C.prog → X W args →
      Calls C.prog f args W fun e W' => ∃ v, e = .returned v ∧ s.post enc C.prog fn apart fresh handsOn again W args v W') :
    ReturnsInHanded a C os f .any (fun w args => (s.pre enc C.prog fn conds apart w args ∧ X w args) ∧ sizedMet enc C.prog fn (OpenSpec.ofChange s) apart w args) (s.post enc C.prog fn apart fresh handsOn again) := by
  refine returnsInHanded_of_calls own started noInit witness ?_
  intro w tape i _ hsh _ hok hpre hholds
  obtain ⟨_, _, _, fn', hfn', _, _, _, _, hval⟩ := hok
  have e : fn' = fn := Option.some.inj (hfn'.symm.trans hfn)
  subst e
  obtain ⟨⟨⟨ds, gs, before, hw, hc⟩, hx⟩, hz⟩ := hpre
  have hw' := DataW.Whole.of_heap (w' := w.forCall tape i) (by rfl) hw
  refine (contract (w.forCall tape i) w.heap.size i.args ds gs before hval hw' hsh (hX _ _ _ (by rfl) hx)).mono fun e W' ⟨v, he, hp⟩ => ?_
  subst he
  exact ChangeSpec.post_blind hp
end
end Go.Proofs.YtnkelhmjkmeilaaGreatDoor
end
section
namespace Go.Proofs.YtnkelhmjkmeilaaGreatDoor
open Go.RowKit
theorem M0_of {W : World} (h : W.ShapedOpen Tryz.prog) : M0 W :=
  Go.Proofs.cell_of_shapedOpen_int (zero := #[.int .i64 0]) (t := 3) h (of_decide_eq_true (by kernel_rfl)) (by kernel_rfl) rfl (by kernel_rfl) (by kernel_rfl) Tryz.underlying3
end Go.Proofs.YtnkelhmjkmeilaaGreatDoor
end
section
namespace Go.Proofs.YtnkelhmjkmeilaaGreatDoor
open Go.ChangeShapes Go.WideShapes Go.ChangeAt Go.RowKit
theorem and_b {a b : Bool} (ha : a = true) (hb : b = true) : (a && b) = true := by rw [ha, hb]; rfl
theorem jf1 : (Rows.topDeepRow.wf (OpenSpec.ofChange Rows.topDeepSpec)) = true := by kernel_rfl
theorem jf2 : (laidOutB Tryz.prog) = true := by kernel_rfl
theorem jf3 : (mapsRowed Tryz.prog) = true := by kernel_rfl
theorem jf4 : (Tryz.f3.params.all (Tryz.prog.readableRec ·)) = true := by kernel_rfl
theorem jf5 : (namedTie Tryz.prog Rows.topDeepRow.named Rows.topDeepSpec.vars) = true := by kernel_rfl
theorem jf6 : (Rows.topDeepRow.stops == []) = true := by kernel_rfl
theorem jf7 : (Tryz.prog.stops == []) = true := by kernel_rfl
theorem jf8 : (Rows.topDeepRow.knobs == []) = true := by kernel_rfl
theorem jf9 : (Tryz.prog.stopKnobs == []) = true := by kernel_rfl
theorem jf10 : (Rows.topDeepRow.inPlace == Tryz.prog.inPlace 3) = true := by kernel_rfl
theorem jf11 : (Rows.topDeepRow.unfollowed == Tryz.prog.unfollowed 3) = true := by kernel_rfl
theorem jf12 : (Rows.topDeepRow.recurses == Tryz.prog.recurses 3) = true := by kernel_rfl
theorem jf13 : (Rows.topDeepRow.named == Tryz.prog.varsNamed 3) = true := by kernel_rfl
theorem jf14 : (Rows.topDeepRow.maps == (Tryz.f3.params.toList ++ Rows.topDeepSpec.plain.varTypes Tryz.prog).any (Tryz.prog.mapsRec ·)) = true := by kernel_rfl
theorem jf15 : (Rows.topDeepRow.ifaces == (Tryz.f3.params.toList ++ Rows.topDeepSpec.plain.varTypes Tryz.prog).any (Tryz.prog.ifacesRec ·)) = true := by kernel_rfl
theorem jf16 : (Rows.topDeepRow.mapsOut == Tryz.prog.mapsAmong Tryz.f3.resultTypes.toList) = true := by kernel_rfl
theorem jf17 : (Rows.topDeepRow.loops == (Tryz.f3.params.toList ++ Rows.topDeepSpec.plain.varTypes Tryz.prog).any (Tryz.prog.loopsFrom ·)) = true := by kernel_rfl
theorem jf18 : (Rows.topDeepRow.wideKeys == (Tryz.f3.params.toList ++ Rows.topDeepSpec.plain.varTypes Tryz.prog ++ Tryz.f3.resultTypes.toList).any (Tryz.prog.wideKeysFrom ·)) = true := by kernel_rfl
theorem jf19 : (Rows.topDeepSpec.vars.all (Tryz.prog.varReadable ·)) = true := by kernel_rfl
theorem jf20 : (Tryz.f3.resultTypes.all (fun t => Tryz.prog.readableRec t && decide (t < Tryz.prog.types.size))) = true := by kernel_rfl
theorem jf21 : (Rows.topDeepRow.ifacesOut == Tryz.f3.resultTypes.toList.any (Tryz.prog.ifacesRec ·)) = true := by kernel_rfl
theorem jf22 : (Rows.topDeepRow.loopsOut == Tryz.f3.resultTypes.toList.any (Tryz.prog.loopsFrom ·)) = true := by kernel_rfl
theorem jf23 : (Rows.topDeepRow.plainKeys == Tryz.prog.plainKeys) = true := by kernel_rfl
theorem jf24 : (Rows.topDeepRow.shortTexts.isNone) = true := by kernel_rfl
theorem jf25 : (Tryz.prog.stopsHeard) = true := by kernel_rfl
theorem jf26 : (Tryz.prog.mayEnter) = true := by kernel_rfl
theorem jf27 : (Rows.topDeepRow.lifted == Tryz.prog.liftsFinal) = true := by kernel_rfl
theorem jf28 : (Tryz.prog.make == some Rows.topDeepRow.make) = true := by kernel_rfl
theorem jf29 : (Rows.topDeepRow.kinds == (if Rows.topDeepRow.domain.isEmpty then [] else Tryz.f3.params.toList.map fun t => match Tryz.prog.underlying t with | some (.int k) => some k | _ => none)) = true := by kernel_rfl
theorem jf30 : (Rows.topDeepRow.pinned == Rows.topDeepRow.pinnedBy) = true := by kernel_rfl
theorem jf31 : (Rows.topDeepRow.veiled == (Tryz.f3.params.toList ++ Rows.topDeepSpec.plain.varTypes Tryz.prog ++ Tryz.f3.resultTypes.toList).any (Tryz.prog.veiledRec ·)) = true := by kernel_rfl
theorem jf32 : (Rows.topDeepRow.veiledFits Tryz.prog Tryz.f3.params.toList (Tryz.f3.params.toList ++ Rows.topDeepSpec.plain.varTypes Tryz.prog ++ Tryz.f3.resultTypes.toList)) = true := by kernel_rfl
set_option maxRecDepth 100000 in
theorem TopDeep_joined : joinedFacts Tryz.prog 3 Tryz.f3 Rows.topDeepSpec Rows.topDeepRow = true := by
  unfold joinedFacts
  exact (and_b (and_b (and_b (and_b (and_b (and_b (and_b (and_b (and_b (and_b (and_b (and_b (and_b (and_b (and_b (and_b (and_b (and_b (and_b (and_b (and_b (and_b (and_b (and_b (and_b (and_b (and_b (and_b (and_b (and_b (and_b jf1 jf2) jf3) jf4) jf5) jf6) jf7) jf8) jf9) jf10) jf11) jf12) jf13) jf14) jf15) jf16) jf17) jf18) jf19) jf20) jf21) jf22) jf23) jf24) jf25) jf26) jf27) jf28) jf29) jf30) jf31) jf32)
end Go.Proofs.YtnkelhmjkmeilaaGreatDoor
end
