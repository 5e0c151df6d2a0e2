/- Plain: a text's tokens (no program in sight): where a tag begins, names, attributes, comments, raw elements. The package token: letters, blanks, span, title. The package token: title, Starts, characters. The package token: title, Starts, characters. Rows of nodes and of attributes that a call makes itself: what lies beneath them stays apart from them. Opening a law's arguments: what a slice of bytes, of characters, that came in holds; the step from the walk to the row's post. No condition. What every row of this seat needs. -/
import Derived.Carry
import Derived.ChangeOld
import Derived.KernelRfl
import Derived.MakeChecks
import Derived.OpenShut
import Derived.ProofKit
import Derived.ShutString
import Derived.Test.YtnkelhmjkmeilaaGreatDoorProg
import Derived.Test.YtnkelhmjkmeilaaGreatDoorRows
import Derived.Test.YtnkelhmjkmeilaaGreatDoorT01
import Derived.Test.YtnkelhmjkmeilaaGreatDoorT02
import Derived.Test.YtnkelhmjkmeilaaGreatDoorT03
import Derived.Test.YtnkelhmjkmeilaaGreatDoorT04
import Derived.Test.YtnkelhmjkmeilaaGreatDoorT06
section
namespace Go.Proofs.YtnkelhmjkmeilaaGreatDoor
structure Tk where
  kind : Int
  name : List UInt8
  attrs : List Atr
  text : List UInt8
def lett (c : UInt8) : Bool := (decide (65 ≤ c.toNat) && decide (c.toNat ≤ 90)) || (decide (97 ≤ c.toNat) && decide (c.toNat ≤ 122))
def blk (c : UInt8) : Bool := c.toNat == 9 || (c.toNat == 10 || (c.toNat == 12 || c.toNat == 32))
def nmB (c : UInt8) : Bool := lett c || ((decide (48 ≤ c.toNat) && decide (c.toNat ≤ 57)) || c.toNat == 45)
def skB (c : UInt8) : Bool := blk c || (c.toNat == 47 || c.toNat == 61)
def anB (c : UInt8) : Bool := !blk c && (c.toNat != 47 && (c.toNat != 62 && c.toNat != 61))
def avB (c : UInt8) : Bool := !blk c && c.toNat != 62
def lowL (l : List UInt8) : List UInt8 := l.map lower
def startsL : List UInt8 → Bool
  | a :: c :: _ => a.toNat == 60 && (c.toNat == 47 || (c.toNat == 33 || (c.toNat == 63 || lett c)))
  | _ => false
def spanL (p : UInt8 → Bool) : List UInt8 → Nat
  | [] => 0
  | c :: t => if p c then 1 + spanL p t else 0
def titleL : List UInt8 → Nat
  | [] => 0
  | c :: t => if lett c then spanL nmB (c :: t) else 0
def charL : List UInt8 → Nat
  | [] => 0
  | c :: t => if startsL (c :: t) then 0 else 1 + charL t
def noTk : Tk := ⟨0, [], [], []⟩
def cmtL (s : List UInt8) : Tk × Nat :=
  if Lib.hasPrefix s [60, 33, 45, 45] then
    (if Lib.index (s.drop 4) [45, 45, 62] < 0 then (⟨4, [], [], s.drop 4⟩, s.length)
     else (⟨4, [], [], (s.drop 4).take (Lib.index (s.drop 4) [45, 45, 62]).toNat⟩, 4 + (Lib.index (s.drop 4) [45, 45, 62]).toNat + 3))
  else
    (if Lib.index (s.drop 2) [62] < 0 then (⟨4, [], [], s.drop 2⟩, s.length)
     else (⟨4, [], [], (s.drop 2).take (Lib.index (s.drop 2) [62]).toNat⟩, 2 + (Lib.index (s.drop 2) [62]).toNat + 1))
def endL (s : List UInt8) : Tk × Nat :=
  if titleL (s.drop 2) = 0 then (if Lib.hasPrefix s [60, 47, 62] then (noTk, 3) else cmtL s)
  else if Lib.indexByte s 62 < 0 then (noTk, s.length)
  else (⟨2, lowL ((s.drop 2).take (titleL (s.drop 2))), [], []⟩, (Lib.indexByte s 62).toNat + 1)
def atL (s : List UInt8) : Atr × Nat :=
  let i := spanL anB s
  let nm := lowL (s.take i)
  let j := i + spanL blk (s.drop i)
  match s.drop j with
  | [] => ((nm, []), j)
  | c :: _ =>
    if c.toNat ≠ 61 then ((nm, []), j) else
    let k := j + 1 + spanL blk (s.drop (j + 1))
    match s.drop k with
    | [] => ((nm, []), k)
    | q :: _ =>
      if q.toNat = 34 ∨ q.toNat = 39 then
        let m := spanL (fun c => c.toNat != q.toNat) (s.drop (k + 1))
        if k + 1 + m = s.length then ((nm, []), s.length) else ((nm, dec ((s.drop (k + 1)).take m)), k + 1 + m + 1)
      else
        let m := spanL avB (s.drop k)
        ((nm, dec ((s.drop k).take m)), k + m)
def begF : Nat → List UInt8 → Nat → List Atr → Option (List Atr × Nat)
  | 0, _, _, _ => none
  | f + 1, s, i, acc =>
    match s.drop (i + spanL skB (s.drop i)) with
    | [] => none
    | c :: _ =>
      if c.toNat = 62 then some (acc, i + spanL skB (s.drop i) + 1) else
      let a := atL (s.drop (i + spanL skB (s.drop i)))
      begF f s (i + spanL skB (s.drop i) + a.2) (if (valL acc a.1.1).isSome then acc else acc ++ [a.1])
def begL (s : List UInt8) : Tk × Nat :=
  match begF (s.length + 1) s (1 + titleL (s.drop 1)) [] with
  | none => (noTk, s.length)
  | some (ats, n) => (⟨1, lowL ((s.drop 1).take (titleL (s.drop 1))), ats, []⟩, n)
def tagL (s : List UInt8) : Tk × Nat :=
  if startsL s = false then (noTk, 0)
  else match s[1]? with
    | none => (noTk, 0)
    | some c => if c.toNat = 47 then endL s else if c.toNat = 33 ∨ c.toNat = 63 then cmtL s else begL s
def endsAt (s name : List UInt8) : Bool :=
  match s with
  | a :: b :: rest => a.toNat == 60 && (b.toNat == 47 && (prefixed rest name && (match rest[name.length]? with
      | none => false
      | some c => blk c || (c.toNat == 47 || c.toNat == 62))))
  | _ => false
def endsL (s name : List UInt8) : Int :=
  match s with
  | [] => -1
  | c :: t => if endsAt (c :: t) name then 0 else if endsL t name < 0 then -1 else endsL t name + 1
theorem decode_head (c : UInt8) (t : List UInt8) : (c.toNat < 128 ∧ Lib.decodeL (c :: t) = (c.toNat, 1)) ∨
    (128 ≤ c.toNat ∧ 128 ≤ (Lib.decodeL (c :: t)).1 ∧ ∀ x ∈ (c :: t).take (Lib.decodeL (c :: t)).2, 128 ≤ x.toNat) := by
  by_cases h : c.toNat < 128
  · exact .inl ⟨h, Lib.decodeL_ascii c t h⟩
  · right
    refine ⟨by omega, ?_⟩
    have hw : 1 ≤ (Lib.decodeL (c :: t)).2 := Lib.width_pos _ _
    by_cases hv : (Lib.decodeL (c :: t)).1 = 65533 ∧ (Lib.decodeL (c :: t)).2 = 1
    · rw [hv.1, hv.2]
      refine ⟨by omega, fun x hx => ?_⟩
      simp at hx
      subst hx
      omega
    · have he := Lib.encode_decode (c :: t) (by simp) hv
      have hok := decodeL_ok (c :: t)
      rcases enc_bytes _ hok with ⟨d, hd, _, e2⟩ | ⟨h1, h2⟩
      · rw [e2] at he
        obtain ⟨k, hk⟩ : ∃ k, (Lib.decodeL (c :: t)).2 = k + 1 := ⟨_, (Nat.succ_pred_eq_of_pos hw).symm⟩
        rw [hk, List.take_succ_cons] at he
        injection he with e3 e4
        subst e3
        omega
      · refine ⟨by omega, fun x hx => h2 x ?_⟩
        rw [he]; exact hx
theorem spanL_all {p : UInt8 → Bool} : ∀ (n : Nat) (l : List UInt8), n ≤ l.length → (∀ c ∈ l.take n, p c = true) → spanL p l = n + spanL p (l.drop n)
  | 0, l, _, _ => by simp
  | n + 1, [], h, _ => by simp at h
  | n + 1, c :: t, h, ha => by
    have h1 : p c = true := ha c (by simp)
    have h2 := spanL_all n t (by simpa using h) (fun x hx => ha x (by simp [hx]))
    simp only [spanL, h1, if_true, List.drop_succ_cons, h2]
    omega
theorem spanL_le (p : UInt8 → Bool) : ∀ l : List UInt8, spanL p l ≤ l.length
  | [] => by simp [spanL]
  | c :: t => by
    have := spanL_le p t
    simp only [spanL, List.length_cons]
    split <;> omega
theorem spanL_take (p : UInt8 → Bool) : ∀ (l : List UInt8), ∀ c ∈ l.take (spanL p l), p c = true
  | [], c, h => by simp at h
  | d :: t, c, h => by
    simp only [spanL] at h
    split at h
    · rename_i hd
      rw [show 1 + spanL p t = spanL p t + 1 by omega, List.take_succ_cons, List.mem_cons] at h
      rcases h with rfl | h
      · exact hd
      · exact spanL_take p t c h
    · simp at h
theorem spanL_stop (p : UInt8 → Bool) : ∀ (l : List UInt8) c, l[spanL p l]? = some c → p c = false
  | [], c, h => by simp at h
  | d :: t, c, h => by
    simp only [spanL] at h
    split at h
    · rw [show 1 + spanL p t = spanL p t + 1 by omega, List.getElem?_cons_succ] at h
      exact spanL_stop p t c h
    · rename_i hd
      simp at h
      subst h
      simpa using hd
end Go.Proofs.YtnkelhmjkmeilaaGreatDoor
namespace Go.Proofs.YtnkelhmjkmeilaaGreatDoor
open Go.RowKit
def RB (r : Int) (c : UInt8) : Prop := (c.toNat < 128 ∧ r = c.toNat) ∨ (128 ≤ c.toNat ∧ 128 ≤ r ∧ r ≤ 1114111)
structure Taken (K : FuncId) (cs : Array Value) (p : UInt8 → Bool) (Inv : World → Prop) : Prop where
  call : ∀ (r : Int) (c : UInt8) (w : World), Inv w → RB r c → Calls Tryz.prog K (#[.int .i32 r] ++ cs) w fun e w' => e = .returned (.bool (p c)) ∧ w' = w
  enter : ∀ (args : Array Value) (w : World), Sem.run Tryz.prog (callFunc K args) w = .ok (.enter K args) w
  high : ∀ c d : UInt8, 128 ≤ c.toNat → 128 ≤ d.toNat → p c = p d
set_option maxRecDepth 100000 in
theorem letter_any (r : Int) (c : UInt8) (h : RB r c) (w : World) : Calls Tryz.prog 327 #[.int .i32 r] w fun e w' => e = .returned (.bool (lett c)) ∧ w' = w := by
  have hc := c.toNat_lt
  have hE := Lib.hid (show True from trivial)
  unfold RB at h
  go_enter Tryz.func327, Tryz.ntmps327
  go_wp2
  all_goals (go_ret; refine ⟨ret_bool ?_, rfl⟩; rw [Bool.eq_iff_iff]; simp only [lett, Bool.or_eq_true, Bool.and_eq_true, decide_eq_true_eq, Bool.false_eq_true, true_iff, false_iff]; clear hE; omega)
set_option maxRecDepth 100000 in
theorem blank_any (r : Int) (c : UInt8) (h : RB r c) (w : World) : Calls Tryz.prog 326 #[.int .i32 r] w fun e w' => e = .returned (.bool (blk c)) ∧ w' = w := by
  have hc := c.toNat_lt
  have hE := Lib.hid (show True from trivial)
  unfold RB at h
  go_enter Tryz.func326, Tryz.ntmps326
  go_wp2
  all_goals (go_ret; refine ⟨ret_bool ?_, rfl⟩; rw [Bool.eq_iff_iff]; simp only [blk, Bool.or_eq_true, beq_iff_eq, true_iff]; clear hE; omega)
set_option maxHeartbeats 1000000 in
set_option maxRecDepth 100000 in
theorem span_any {K : FuncId} {cs : Array Value} {p : UInt8 → Bool} {Inv : World → Prop} (HT : Taken K cs p Inv) {w : World} {s : ByteArray} {l : List UInt8} (hs : IsStr s l) (hl : l.length ≤ 1000000) (hI : ∀ w', Below w.heap.size w w' → Inv w') :
    Calls Tryz.prog 330 #[.string s, .func (.func K) #[] cs] w fun e w' => e = .returned (.int .i64 (spanL p l)) ∧ Below w.heap.size w w' := by
  have hss := hs.size
  have hsb : s.size ≤ 1000000 := by omega
  have hE := HT.enter
  have HS := Lib.hid hs
  have HSS := Lib.hid hss
  clear hs hss
  go_enter Tryz.func330, Tryz.ntmps330
  go_wp2
  go_loopw [] (fun wr => ∃ pos, wr.heap[w.heap.size]? = some (.stringIter s pos) ∧ pos ≤ s.size ∧ Below w.heap.size w wr ∧ spanL p l = pos + spanL p (l.drop pos)) (fun wr => s.size - wr.iterPos w.heap.size)
  case atStart =>
    refine ⟨0, ?_, Nat.zero_le _, (Below.refl _ w).alloc (Nat.le_refl _) _, by simp⟩
    simpa using World.iter_heap w s 0
  case round =>
    obtain ⟨pos, hit, hps, hbw, hsp⟩ := hrel
    have hsz : w.heap.size < wr.heap.size := (Array.getElem?_eq_some_iff.1 hit).1
    by_cases hp : pos < s.size
    · have hnx : ∀ ty, (Instr.next (.pointer (some ⟨w.heap.size, 0, none⟩)) true ty).run Tryz.prog wr = _ := fun ty => Lib.run_next_any_at wr w.heap.size s pos ty hit hp
      have hwd := Lib.width_pos s pos
      have hpl : pos < l.length := by rw [← HSS.out]; exact hp
      have hd1 : pos + (Utf8.decode s pos).2 ≤ s.size := by
        have hne : l.drop pos ≠ [] := by
          intro e
          have := congrArg List.length e
          simp only [List.length_drop, List.length_nil] at this
          omega
        have hle := Lib.decodeL_le _ hne
        have e1 := s_decode HS.out pos
        rw [← e1, List.length_drop] at hle
        have e2 := HSS.out
        omega
      have hit2 := Lib.iterAt_heap wr w.heap.size s pos (pos + (Utf8.decode s pos).2) hit
      have hbw2 := Lib.below_iterAt hbw (k := w.heap.size) (Nat.le_refl _) s (pos + (Utf8.decode s pos).2)
      have hmeas : wr.iterPos w.heap.size = pos := by simp only [World.iterPos, hit]
      have hI2 := hI _ hbw2
      have hhd := decode_head l[pos] (l.drop (pos + 1))
      rw [← List.drop_eq_getElem_cons hpl, ← s_decode HS.out] at hhd
      have hrm := Lib.rune_le s pos
      have hrb : RB ((Utf8.decode s pos).1 : Int) l[pos] := by
        unfold RB
        rcases hhd with ⟨h1, h2⟩ | ⟨h1, h2, _⟩
        · left; rw [h2]; exact ⟨h1, rfl⟩
        · right; exact ⟨h1, by omega, by omega⟩
      have hdl : pos + (Utf8.decode s pos).2 ≤ l.length := by rw [← HSS.out]; exact hd1
      have hsx : spanL p (l.drop pos) = if p l[pos] then (Utf8.decode s pos).2 + spanL p (l.drop (pos + (Utf8.decode s pos).2)) else 0 := by
        cases hpc : p l[pos] with
        | false => rw [List.drop_eq_getElem_cons hpl, spanL, hpc]; rfl
        | true =>
          rw [if_pos rfl, ← List.drop_drop]
          refine spanL_all _ _ (by simp; omega) (fun x hx => ?_)
          rcases hhd with ⟨h1, h2⟩ | ⟨h1, _, h2⟩
          · rw [h2] at hx
            rw [List.drop_eq_getElem_cons hpl, List.take_succ_cons, List.take_zero, List.mem_singleton] at hx
            subst hx
            exact hpc
          · rw [HT.high x l[pos] (h2 x hx) h1]; exact hpc
      have HSX := Lib.hid hsx
      have HSP := Lib.hid hsp
      clear hhd hsx hsp
      generalize hcx : l[pos] = cx at *
      clear hcx
      go_wp2_with fail
      refine (HT.call _ cx _ hI2 hrb).mono ?_
      rintro e W1 ⟨rfl, rfl⟩
      cases hpc : p cx with
      | false =>
        have HPC := Lib.hid hpc
        clear hpc
        go_wp2
        go_ret
        exact ⟨ret_int (by rw [HSP.out, HSX.out, HPC.out]; simp), hbw2⟩
      | true =>
        have HPC := Lib.hid hpc
        clear hpc
        go_wp2
        go_roundw
        case rel => exact ⟨pos + (Utf8.decode s pos).2, hit2, hd1, hbw2, by rw [HSP.out, HSX.out, HPC.out, if_pos rfl]; omega⟩
        case measure => simp only [World.iterPos, hit2, hit]; omega
    · have hnx : ∀ ty, (Instr.next (.pointer (some ⟨w.heap.size, 0, none⟩)) true ty).run Tryz.prog wr = _ := fun ty => Lib.run_next_end_at wr w.heap.size s pos ty hit hp
      have HE := Lib.hid (show spanL p l = s.size by rw [hsp, List.drop_of_length_le (by rw [← HSS.out]; omega)]; simp [spanL]; omega)
      clear hsp
      go_wp2
      go_ret
      exact ⟨ret_int (by rw [HE.out]), hbw⟩
end Go.Proofs.YtnkelhmjkmeilaaGreatDoor
namespace Go.Proofs.YtnkelhmjkmeilaaGreatDoor
open Go.RowKit
theorem lett_high (c : UInt8) (h : 128 ≤ c.toNat) : lett c = false := by simp [lett]; omega
theorem blk_high (c : UInt8) (h : 128 ≤ c.toNat) : blk c = false := by simp [blk]; omega
theorem nmB_high (c : UInt8) (h : 128 ≤ c.toNat) : nmB c = false := by simp [nmB, lett_high c h]; omega
theorem skB_high (c : UInt8) (h : 128 ≤ c.toNat) : skB c = false := by simp [skB, blk_high c h]; omega
theorem anB_high (c : UInt8) (h : 128 ≤ c.toNat) : anB c = true := by simp [anB, blk_high c h]; omega
theorem avB_high (c : UInt8) (h : 128 ≤ c.toNat) : avB c = true := by simp [avB, blk_high c h]; omega
set_option maxRecDepth 100000 in
theorem takenBlank : Taken 326 #[] blk (fun _ => True) where
  call := fun r c w _ h => by simpa using blank_any r c h w
  enter := fun args w => enters Tryz.func326 (by kernel_rfl) rfl args w
  high := fun c d hc hd => by rw [blk_high c hc, blk_high d hd]
set_option maxRecDepth 100000 in
theorem takenName : Taken 337 #[] nmB (fun _ => True) where
  call := fun r c w _ h => by
    have hc := c.toNat_lt
    have hE := Lib.hid h
    unfold RB at h
    have hnm : nmB c = (lett c || (decide (48 ≤ r) && decide (r ≤ 57) || r == 45)) := by
      rw [Bool.eq_iff_iff]; simp only [nmB, Bool.or_eq_true, Bool.and_eq_true, decide_eq_true_eq, beq_iff_eq]
      rcases h with ⟨h1, h2⟩ | ⟨h1, h2, h3⟩
      · subst h2; constructor <;> (intro h; rcases h with h | h; exact .inl h; right; omega)
      · constructor <;> (intro h; rcases h with h | h; exact .inl h; right; omega)
    rw [hnm]
    have HN := Lib.hid hnm
    clear hnm h
    go_enter Tryz.func337, Tryz.ntmps337
    go_wp2_with fail
    refine (letter_any r c hE.out _).mono ?_
    rintro e w' ⟨rfl, rfl⟩
    cases hl : lett c
    all_goals
      go_wp2
      all_goals (go_ret; refine ⟨ret_bool ?_, rfl⟩; first | rfl | (rw [Bool.eq_iff_iff]; simp only [hl, Bool.or_eq_true, Bool.and_eq_true, decide_eq_true_eq, beq_iff_eq, Bool.false_eq_true, false_or, true_or] <;> omega))
  enter := fun args w => enters Tryz.func337 (by kernel_rfl) rfl args w
  high := fun c d hc hd => by rw [nmB_high c hc, nmB_high d hd]
set_option maxRecDepth 100000 in
theorem takenSkip : Taken 331 #[] skB (fun _ => True) where
  call := fun r c w _ h => by
    have hc := c.toNat_lt
    have hE := Lib.hid h
    unfold RB at h
    have hnm : skB c = (blk c || (r == 47 || r == 61)) := by
      rw [Bool.eq_iff_iff]; simp only [skB, Bool.or_eq_true, beq_iff_eq]
      rcases h with ⟨h1, h2⟩ | ⟨h1, h2, h3⟩
      · subst h2; constructor <;> (intro h; rcases h with h | h; exact .inl h; right; omega)
      · constructor <;> (intro h; rcases h with h | h; exact .inl h; right; omega)
    rw [hnm]
    have HN := Lib.hid hnm
    clear hnm h
    go_enter Tryz.func331, Tryz.ntmps331
    go_wp2_with fail
    refine (blank_any r c hE.out _).mono ?_
    rintro e w' ⟨rfl, rfl⟩
    cases hl : blk c
    all_goals
      go_wp2
      all_goals (go_ret; refine ⟨ret_bool ?_, rfl⟩; first | rfl | (rw [Bool.eq_iff_iff]; simp only [hl, Bool.or_eq_true, beq_iff_eq, Bool.false_eq_true, true_iff, false_or, true_or] <;> omega))
  enter := fun args w => enters Tryz.func331 (by kernel_rfl) rfl args w
  high := fun c d hc hd => by rw [skB_high c hc, skB_high d hd]
set_option maxRecDepth 100000 in
theorem takenAn : Taken 338 #[] anB (fun _ => True) where
  call := fun r c w _ h => by
    have hc := c.toNat_lt
    have hE := Lib.hid h
    unfold RB at h
    have hnm : anB c = (!blk c && (r != 47 && (r != 62 && r != 61))) := by
      rw [Bool.eq_iff_iff]; simp only [anB, Bool.and_eq_true, bne_iff_ne]
      rcases h with ⟨h1, h2⟩ | ⟨h1, h2, h3⟩
      · subst h2; constructor <;> (intro h; refine ⟨h.1, ?_⟩; omega)
      · constructor <;> (intro h; refine ⟨h.1, ?_⟩; omega)
    rw [hnm]
    have HN := Lib.hid hnm
    clear hnm h
    go_enter Tryz.func338, Tryz.ntmps338
    go_wp2_with fail
    refine (blank_any r c hE.out _).mono ?_
    rintro e w' ⟨rfl, rfl⟩
    cases hl : blk c
    all_goals
      go_wp2
      all_goals (go_ret; refine ⟨ret_bool ?_, rfl⟩; first | rfl | (rw [Bool.eq_iff_iff]; simp only [hl, Bool.not_true, Bool.not_false, Bool.and_eq_true, bne_iff_ne, ne_eq, Bool.false_eq_true, false_iff, true_and, false_and, not_and] <;> omega))
  enter := fun args w => enters Tryz.func338 (by kernel_rfl) rfl args w
  high := fun c d hc hd => by rw [anB_high c hc, anB_high d hd]
set_option maxRecDepth 100000 in
theorem takenAv : Taken 340 #[] avB (fun _ => True) where
  call := fun r c w _ h => by
    have hc := c.toNat_lt
    have hE := Lib.hid h
    unfold RB at h
    have hnm : avB c = (!blk c && r != 62) := by
      rw [Bool.eq_iff_iff]; simp only [avB, Bool.and_eq_true, bne_iff_ne]
      rcases h with ⟨h1, h2⟩ | ⟨h1, h2, h3⟩
      · subst h2; constructor <;> (intro h; refine ⟨h.1, ?_⟩; omega)
      · constructor <;> (intro h; refine ⟨h.1, ?_⟩; omega)
    rw [hnm]
    have HN := Lib.hid hnm
    clear hnm h
    go_enter Tryz.func340, Tryz.ntmps340
    go_wp2_with fail
    refine (blank_any r c hE.out _).mono ?_
    rintro e w' ⟨rfl, rfl⟩
    cases hl : blk c
    all_goals
      go_wp2
      all_goals (go_ret; refine ⟨ret_bool ?_, rfl⟩; first | rfl | (rw [Bool.eq_iff_iff]; simp only [hl, Bool.not_true, Bool.not_false, Bool.and_eq_true, bne_iff_ne, ne_eq, Bool.false_eq_true, true_and, false_and] <;> omega))
  enter := fun args w => enters Tryz.func340 (by kernel_rfl) rfl args w
  high := fun c d hc hd => by rw [avB_high c hc, avB_high d hd]
def noq (q c : UInt8) : Bool := c.toNat != q.toNat
set_option maxRecDepth 100000 in
theorem takenQ (g : Nat) (q : UInt8) (hq : q.toNat < 128) : Taken 339 #[.pointer (some ⟨g, 0, none⟩)] (noq q) (fun w => w.cell? ⟨g, 0, none⟩ = some (.int .i32 q.toNat)) where
  call := fun r c w hi h => by
    have hc := c.toNat_lt
    unfold RB at h
    have hnm : noq q c = (r != (q.toNat : Int)) := by
      rw [Bool.eq_iff_iff]; simp only [noq, bne_iff_ne]
      omega
    rw [hnm]
    clear hnm h
    simp only [List.append_toArray, List.cons_append, List.nil_append]
    go_enter Tryz.func339, Tryz.ntmps339
    go_wp2
    all_goals (go_ret; refine ⟨ret_bool ?_, rfl⟩; first | rfl | simp_all)
  enter := fun args w => enters Tryz.func339 (by kernel_rfl) rfl args w
  high := fun c d hc hd => by
    have e1 : noq q c = true := by simp [noq]; omega
    have e2 : noq q d = true := by simp [noq]; omega
    rw [e1, e2]
end Go.Proofs.YtnkelhmjkmeilaaGreatDoor
namespace Go.Proofs.YtnkelhmjkmeilaaGreatDoor
open Go.RowKit
theorem rb_byte (c : UInt8) (h : c.toNat < 128) : RB (c.toNat : Int) c := .inl ⟨h, rfl⟩
theorem lett_rune (c : UInt8) : ∃ d : UInt8, RB (c.toNat : Int) d ∧ lett d = lett c := by
  by_cases h : c.toNat < 128
  · exact ⟨c, rb_byte c h, rfl⟩
  · have := c.toNat_lt
    exact ⟨c, .inr ⟨by omega, by omega, by omega⟩, rfl⟩
theorem str_ne {s : ByteArray} {l : List UInt8} (h : IsStr s l) (hl : l ≠ []) : ¬ s.toList = [] := by
  rw [ByteArray.toList_eq, h.out]; exact hl
theorem letterB_any (c : UInt8) (w : World) : Calls Tryz.prog 327 #[.int .i32 c.toNat] w fun e w' => e = .returned (.bool (lett c)) ∧ w' = w := by
  obtain ⟨d, h1, h2⟩ := lett_rune c
  rw [← h2]
  exact letter_any _ d h1 w
theorem blankB_any (c : UInt8) (w : World) : Calls Tryz.prog 326 #[.int .i32 c.toNat] w fun e w' => e = .returned (.bool (blk c)) ∧ w' = w := by
  by_cases h : c.toNat < 128
  · exact blank_any _ c (rb_byte c h) w
  · have := c.toNat_lt
    exact blank_any _ c (.inr ⟨by omega, by omega, by omega⟩) w
set_option maxHeartbeats 1000000 in
set_option maxRecDepth 100000 in
theorem title_any {w : World} {s : ByteArray} {l : List UInt8} (hs : IsStr s l) (hl : l.length ≤ 1000000) :
    Calls Tryz.prog 328 #[.string s] w fun e w' => e = .returned (.int .i64 (titleL l)) ∧ Below w.heap.size w w' := by
  have hss := hs.size
  cases l with
  | nil =>
    obtain rfl := hs.to
    clear hss hs
    go_enter Tryz.func328, Tryz.ntmps328
    go_wp2
    go_ret
    exact ⟨rfl, Below.refl _ _⟩
  | cons c t =>
    have h0 : 0 < s.size := by rw [hss]; simp
    have e1 := s_byte hs 0 h0 (by simp)
    rw [List.getElem_cons_zero] at e1
    have hw : RowKit.wrap32 (c.toNat : Int) = c.toNat := IntWalk.wrap32_in _ (by have := c.toNat_lt; omega)
    have HS := Lib.hid hs
    have hnn : s.toList.isEmpty = false := by have := str_ne hs (by simp); cases h : s.toList with
      | nil => exact absurd h this
      | cons => rfl
    clear hs hss
    go_enter Tryz.func328, Tryz.ntmps328
    go_wp2_with fail
    refine (letterB_any c _).mono ?_
    rintro e W1 ⟨rfl, rfl⟩
    cases hc : lett c with
    | false =>
      have HT := Lib.hid (show titleL (c :: t) = 0 by simp [titleL, hc])
      clear hc
      go_wp2
      go_ret
      exact ⟨ret_int (by rw [HT.out]; rfl), Below.refl _ _⟩
    | true =>
      have HT := Lib.hid (show titleL (c :: t) = spanL nmB (c :: t) by simp [titleL, hc])
      clear hc
      go_wp2_with fail
      refine (span_any takenName HS.out hl (fun _ _ => trivial)).mono ?_
      rintro e W2 ⟨rfl, b2⟩
      rw [← HT.out]
      go_wp2
      go_ret
      exact ⟨rfl, b2⟩
set_option maxHeartbeats 1000000 in
set_option maxRecDepth 100000 in
theorem Starts_any {s : ByteArray} {l : List UInt8} (hs : IsStr s l) (hl : l.length ≤ 1000000) (w : World) :
    Calls Tryz.prog 319 #[.string s] w fun e w' => e = .returned (.bool (startsL l)) ∧ w' = w := by
  have hss := hs.size
  match l with
  | [] =>
    obtain rfl := hs.to
    clear hss hs
    go_enter Tryz.func319, Tryz.ntmps319
    go_wp2
    go_ret
    exact ⟨rfl, rfl⟩
  | [c] =>
    have hsz : s.size = 1 := by rw [hss]; rfl
    clear hss hs
    go_enter Tryz.func319, Tryz.ntmps319
    go_wp2
    go_ret
    exact ⟨rfl, rfl⟩
  | a :: c :: t =>
    have hsz : 2 ≤ s.size := by rw [hss]; simp
    have h0 : 0 < s.size := by omega
    have h1 : 1 < s.size := by omega
    have e0 := s_byte hs 0 h0 (by simp)
    have e1 := s_byte hs 1 h1 (by simp)
    rw [List.getElem_cons_zero] at e0
    rw [List.getElem_cons_succ, List.getElem_cons_zero] at e1
    have HD := Lib.hid (show startsL (a :: c :: t) = (a.toNat == 60 && (c.toNat == 47 || (c.toNat == 33 || (c.toNat == 63 || lett c)))) from rfl)
    have hw : RowKit.wrap32 (c.toNat : Int) = c.toNat := IntWalk.wrap32_in _ (by have := c.toNat_lt; omega)
    clear hs hss
    go_enter Tryz.func319, Tryz.ntmps319
    by_cases ha : a.toNat = 60
    · have q0 : ((a.toNat : Int) != 60) = false := by simp [ha]
      by_cases hc1 : c.toNat = 47
      · have q1 : ((c.toNat : Int) == 47) = true := by simp [hc1]
        have HR := Lib.hid (show startsL (a :: c :: t) = true by rw [HD.out]; simp [ha, hc1])
        clear ha hc1
        go_wp2
        go_ret
        exact ⟨ret_bool HR.out.symm, rfl⟩
      · have q1 : ((c.toNat : Int) == 47) = false := by rw [beq_eq_false_iff_ne]; omega
        by_cases hc2 : c.toNat = 33
        · have q2 : ((c.toNat : Int) == 33) = true := by simp [hc2]
          have HR := Lib.hid (show startsL (a :: c :: t) = true by rw [HD.out]; simp [ha, hc2])
          clear ha hc1 hc2
          go_wp2
          go_ret
          exact ⟨ret_bool HR.out.symm, rfl⟩
        · have q2 : ((c.toNat : Int) == 33) = false := by rw [beq_eq_false_iff_ne]; omega
          by_cases hc3 : c.toNat = 63
          · have q3 : ((c.toNat : Int) == 63) = true := by simp [hc3]
            have HR := Lib.hid (show startsL (a :: c :: t) = true by rw [HD.out]; simp [ha, hc3])
            clear ha hc1 hc2 hc3
            go_wp2
            go_ret
            exact ⟨ret_bool HR.out.symm, rfl⟩
          · have q3 : ((c.toNat : Int) == 63) = false := by rw [beq_eq_false_iff_ne]; omega
            have HR := Lib.hid (show startsL (a :: c :: t) = lett c by
              rw [HD.out, ha, show (c.toNat == 47) = false by simpa using hc1, show (c.toNat == 33) = false by simpa using hc2, show (c.toNat == 63) = false by simpa using hc3]
              rfl)
            clear ha hc1 hc2 hc3
            go_wp2_with fail
            refine (letterB_any c _).mono ?_
            rintro e W1 ⟨rfl, rfl⟩
            rw [← HR.out]
            go_wp2
            all_goals (go_ret; exact ⟨ret_bool (by simp_all), rfl⟩)
    · have q0 : ((a.toNat : Int) != 60) = true := by simp; omega
      have HR := Lib.hid (show startsL (a :: c :: t) = false by rw [HD.out]; simp [ha])
      clear ha
      go_wp2
      go_ret
      exact ⟨ret_bool HR.out.symm, rfl⟩
end Go.Proofs.YtnkelhmjkmeilaaGreatDoor
end
section
namespace Go.Proofs.YtnkelhmjkmeilaaGreatDoor
open Go.RowKit
section
variable {P : Program} {w : World} {ops : Array Oper} {rest : List Oper} {o : Oper} {a : Act} {Q : Exit → Act → World → Prop}
theorem wpList_push_at (hgd : o.guard = none) (s x : Operand) (t : TypeId) (ho : o.op = .call { callee := .builtin .append, args := #[s, x], argTypes := #[t, t] })
    (base : Nat) {e : TypeId} {size bytes : Nat} (R : Row P t e size bytes) (A : Option Addr) (n c : Nat) (xs : List Value) (hs : a.eval s = .slice A n c) (hown : w.ownsRow base e size (.slice A n c) n xs)
    (cs : List Value) (c1 : Nat) (hx : a.eval x = .slice (some ⟨w.heap.size, 0, none⟩) 1 c1) (hl : cs.length = size) (h1 : ∀ u ∈ cs, u.oneCell' = true)
    (h63 : n + 1 ≤ maxLen) (hbytes : (n + 1) * bytes ≤ 140737488355328) (hbase : base ≤ w.heap.size)
    (h : ∀ A' c' w', n + 1 ≤ c' → w'.ownsRow base e size (.slice A' (n + 1) c') (n + 1) (xs ++ cs) → w.grownBy w' (Value.slice A n c).ownBlock →
      (∀ g, (Value.slice A' (n + 1) c').ownBlock = some g → (Value.slice A n c).ownBlock = some g ∨ w.heap.size ≤ g) → wpList P ops Q rest (a.put o.dst (.slice A' (n + 1) c')) w') :
    wpList P ops Q (o :: rest) a (w.alloc (.cells cs.toArray e)) := by
  obtain ⟨i, z, hi, hz, hsize, hby, hzs⟩ := R.ex
  have hcell : ∀ j u, cs[j]? = some u → (w.alloc (.cells cs.toArray e)).cell? ((⟨w.heap.size, 0, none⟩ : Addr).add j) = some u := fun j u hu =>
    World.news_of_block (fr := (0, 0)) (heap_alloc_new w _) j u (by simpa using hu)
  refine wpList_append_own_at _ hgd s x t ho base e i z size bytes R.und hi hz hsize hby hzs R.pos _ n xs hs (hown.alloc _) ⟨w.heap.size, 0, none⟩ 1 c1 cs hx (by simpa using hl) hcell h1 h63 hbytes (by simp; omega) ?_
  intro v' w' h2 h3 _ h4
  obtain ⟨A', c', rfl, hc'⟩ := own_shape h2
  refine h A' c' w' hc' h2 ⟨h3.os, h3.tape, h3.output, Nat.le_trans (by simp) h3.size, fun k hk hne => ?_⟩ (fun g hg => ?_)
  · exact (h3.block k (by simp; omega) hne).trans (Below.heap_alloc w _ k hk)
  · rcases h4 with h4 | h4
    · exact .inl (h4 ▸ hg)
    · rw [h4] at hg
      injection hg with hg
      simp at hg
      exact .inr (by omega)
theorem step_push {K : Act → World → Prop} {E : Prop} (hgd : o.guard = none) (s x : Operand) (t : TypeId) (ho : o.op = .call { callee := .builtin .append, args := #[s, x], argTypes := #[t, t] })
    (base : Nat) {e : TypeId} {size bytes : Nat} (R : Row P t e size bytes) (A : Option Addr) (n c : Nat) (xs : List Value) (hs : a.eval s = .slice A n c) (hown : w.ownsRow base e size (.slice A n c) n xs)
    (g c1 : Nat) (cs : Array Value) (hx : a.eval x = .slice (some ⟨g, 0, none⟩) 1 c1) (hg : w.heap[g]? = some (.cells cs e (0, 0))) (hl : cs.size = size) (h1 : ∀ u ∈ cs.toList, u.oneCell' = true)
    (h63 : n + 1 ≤ maxLen) (hbytes : (n + 1) * bytes ≤ 140737488355328) (hbase : base ≤ w.heap.size)
    (h : ∀ A' c' w', n + 1 ≤ c' → w'.ownsRow base e size (.slice A' (n + 1) c') (n + 1) (xs ++ cs.toList) → w.grownBy w' (Value.slice A n c).ownBlock →
      (∀ g, (Value.slice A' (n + 1) c').ownBlock = some g → (Value.slice A n c).ownBlock = some g ∨ w.heap.size ≤ g) → K (a.put o.dst (.slice A' (n + 1) c')) w') :
    if Region.wanted o (yielded ops a.tmps) = true then Oper.wp P o a w K Q else E := by
  have hw : Region.wanted o (yielded ops a.tmps) = true := by simp [Region.wanted, hgd]
  rw [if_pos hw]
  obtain ⟨i, z, hi, hz, hsize, hby, hzs⟩ := R.ex
  obtain ⟨v', w', hr, h2, h3, h4, h5⟩ := run_append_own_at (P := P) w base t o.type e i z size bytes R.und hi hz hsize hby hzs R.pos _ n xs hown ⟨g, 0, none⟩ 1 c1 cs.toList (by simpa using hl) (World.news_of_block hg) h1 h63 hbytes hbase
  obtain ⟨A', c', rfl, hc'⟩ := own_shape h2
  unfold Oper.wp execOp
  simp only [ho, resolve, invoke, builtin, Sem.run_bind, Sem.run_pure, Result.andThen_ok, List.map_toArray, List.map_cons, List.map_nil, hs, hx, hr]
  refine h A' c' w' hc' h2 h3 (fun g' hg' => ?_)
  rcases h5 with h5 | h5
  · exact .inl (h5 ▸ hg')
  · rw [h5] at hg'
    injection hg' with hg'
    exact .inr (by omega)
end
theorem size_setCell (w : World) (p : Addr) (u : Value) : (w.setCell p u).heap.size = w.heap.size := by simp [World.setCell]
abbrev Apart (lo : Nat) (w : World) (v : Value) : Nat → Prop := fun b => lo ≤ b ∧ b < w.heap.size ∧ v.ownBlock ≠ some b
theorem infoNd : (Tryz.prog.info? 28).map (fun i => (i.zero, i.size, i.bytes)) = some (some (.agg #[.int .i64 0, .string ⟨#[]⟩, .slice none 0 0, .string ⟨#[]⟩, .slice none 0 0]), 5, 88) := by kernel_rfl
theorem rowNd : Row Tryz.prog 26 28 5 88 := by
  obtain ⟨i, hi, hz, h1, h2⟩ := info_parts infoNd
  exact ⟨Tryz.underlying26, ⟨i, _, hi, hz, h1, h2, rfl⟩, by decide⟩
theorem infoAt : (Tryz.prog.info? 78).map (fun i => (i.zero, i.size, i.bytes)) = some (some (.agg #[.string ⟨#[]⟩, .string ⟨#[]⟩]), 2, 32) := by kernel_rfl
theorem rowAt : Row Tryz.prog 25 78 2 32 := by
  obtain ⟨i, hi, hz, h1, h2⟩ := info_parts infoAt
  exact ⟨Tryz.underlying25, ⟨i, _, hi, hz, h1, h2, rfl⟩, by decide⟩
end Go.Proofs.YtnkelhmjkmeilaaGreatDoor
end
section
namespace Go.Proofs.YtnkelhmjkmeilaaGreatDoor
open Go.ChangeShapes Go.WideShapes Go.ChangeAt Go.RowKit
section
variable {H : Type} {enc : TypeId × Value → H} {P : Program}
theorem trod_lt {W : World} {t : TypeId} {v : Value} {d : DataW H} {p : List MemPlace} (h : DataW.Trod enc P W 0 (fun _ => true) true t v d p) : ∀ x ∈ p, x.block < W.heap.size := by
  obtain ⟨m, hm⟩ := h
  exact DataW.trod_lt m _ _ _ hm
end
end Go.Proofs.YtnkelhmjkmeilaaGreatDoor
end
section
namespace Go.Proofs.YtnkelhmjkmeilaaGreatDoor
open Go.ChangeShapes Go.WideShapes Go.ChangeAt Go.RowKit
theorem own : ownKnob Tryz.prog.godebug = none := by kernel_rfl
theorem laidOut : laidOutB Tryz.prog = true := by kernel_rfl
end Go.Proofs.YtnkelhmjkmeilaaGreatDoor
end
