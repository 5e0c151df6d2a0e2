/- rules.item: the item at the beginning of a line, where it is not quoted. rules.Items of a line of words that are not quoted, a space between two. slices.Index and Contains of a bool in a row without it. -/
import Derived.Test.YtnkelhmjkmeilaaGreatDoorT03
import Derived.Test.YtnkelhmjkmeilaaGreatDoorT09
section
namespace Go.Proofs.YtnkelhmjkmeilaaGreatDoor.H
open Go.RowKit
theorem results_tmp4 {fn : Func} {t u v x : Tmp} (h : fn.results = #[.tmp t, .tmp u, .tmp v, .tmp x]) (tmps : Array Value) (P : Program) (w : World) :
    (results fn tmps).run P w = .ok (.tuple #[tmps.getD t undef, tmps.getD u undef, tmps.getD v undef, tmps.getD x undef]) w := by
  simp [results, h]
def itB (c : UInt8) : Bool := decide (32 < (c.toNat : Int)) && (decide ((c.toNat : Int) ≤ 126) && !((c.toNat : Int) == 34))
set_option maxHeartbeats 2000000 in
set_option maxRecDepth 100000 in
theorem item_any {s : ByteArray} {l : List UInt8} (hs : IsStr s l) (hl : l.length ≤ 1000000) (hq : [34].isPrefixOf l = false) (w : World) :
    Calls Tryz.prog 55 #[.string s] w fun e w' => e = .returned (.tuple #[.string ⟨(l.take (spanL itB l)).toArray⟩, .bool false, .int .i64 (spanL itB l), .bool (decide (0 < spanL itB l))]) ∧ w' = w := by
  have hsz := hs.size
  have hsb : s.size ≤ 1000000 := by omega
  have HS := Lib.hid hs
  have HSZ := Lib.hid hsz
  have HQ := Lib.hid hq
  have hle := spanL_le itB l
  obtain ⟨n, hn⟩ : ∃ n, n = spanL itB l := ⟨_, rfl⟩
  have HN := Lib.hid hn
  rw [← hn] at hle ⊢
  clear hs hsz hq hn
  go_enter Tryz.func55, Tryz.ntmps55
  go_wp2_with fail
  refine (HasPrefix_any HS.out ⟨#[34]⟩ (m := [34]) rfl).mono ?_
  rintro e w' ⟨rfl, rfl⟩
  rw [HQ.out]
  go_wp2
  go_loop [9] (fun i => ∃ k : Nat, i = .int .i64 k ∧ k ≤ n) (fun i => n - (intOf i).toNat)
  case atStart => exact ⟨0, rfl, Nat.zero_le _⟩
  case round =>
    obtain ⟨k, rfl, hk⟩ := hrel
    have HT := Lib.hid (s_take HS.out k).to
    by_cases hlt : k < n
    · have hks : k < s.size := by have := HSZ.out; omega
      have hkl : k < l.length := by omega
      have hp : itB l[k] = true := spanL_take itB l _ (by rw [← HN.out]; exact List.mem_take_iff_getElem.2 ⟨k, by omega, rfl⟩)
      have e1 := s_byte HS.out k hks hkl
      rw [← e1] at hp
      clear e1
      generalize hcb : s[k] = c at *
      simp only [itB, Bool.and_eq_true, decide_eq_true_eq, Bool.not_eq_true'] at hp
      obtain ⟨h1, h2, h3⟩ := hp
      go_wp2
      go_round
      case rel => exact ⟨k + 1, by go_num, by omega⟩
      case measure => simp [intOf]; omega
    · obtain rfl : k = n := by omega
      have HR := Lib.hid (show Ending.returned (.tuple #[.string (s.extract 0 k), .bool false, .int .i64 k, .bool (decide (0 < k))]) = .returned (.tuple #[.string ⟨(l.take k).toArray⟩, .bool false, .int .i64 k, .bool (decide (0 < k))]) by rw [HT.out])
      have hkz : k ≤ s.size := by have := HSZ.out; omega
      clear hlt
      by_cases hks : k < s.size
      · have hkl : k < l.length := by have := HSZ.out; omega
        have hp : itB l[k] = false := spanL_stop itB l _ (by rw [← HN.out]; exact List.getElem?_eq_getElem hkl)
        have e1 := s_byte HS.out k hks hkl
        rw [← e1] at hp
        clear e1
        generalize hcb : s[k] = c at *
        by_cases h1 : 32 < (c.toNat : Int)
        · by_cases h2 : (c.toNat : Int) ≤ 126
          · have h3 : ((c.toNat : Int) == 34) = true := by simpa [itB, h1, h2] using hp
            clear hp
            go_wp2
            refine bodyPost_ret (results_tmp4 rfl _ _ _) rfl ?_
            exact ⟨HR.out, rfl⟩
          · clear hp
            go_wp2
            refine bodyPost_ret (results_tmp4 rfl _ _ _) rfl ?_
            exact ⟨HR.out, rfl⟩
        · clear hp
          go_wp2
          refine bodyPost_ret (results_tmp4 rfl _ _ _) rfl ?_
          exact ⟨HR.out, rfl⟩
      · go_wp2
        refine bodyPost_ret (results_tmp4 rfl _ _ _) rfl ?_
        exact ⟨HR.out, rfl⟩
end Go.Proofs.YtnkelhmjkmeilaaGreatDoor.H
end
section
namespace Go.Proofs.YtnkelhmjkmeilaaGreatDoor.H
open Go.RowKit
theorem infoSr : (Tryz.prog.info? 9).map (fun i => (i.zero, i.size, i.bytes)) = some (some (.string ⟨#[]⟩), 1, 16) := by kernel_rfl
theorem rowSr : Row Tryz.prog 72 9 1 16 := by
  obtain ⟨i, hi, hz, h1, h2⟩ := info_parts infoSr
  exact ⟨Tryz.underlying72, ⟨i, _, hi, hz, h1, h2, rfl⟩, by decide⟩
theorem infoBl : (Tryz.prog.info? 4).map (fun i => (i.zero, i.size, i.bytes)) = some (some (.bool false), 1, 1) := by kernel_rfl
theorem rowBl : Row Tryz.prog 99 4 1 1 := by
  obtain ⟨i, hi, hz, h1, h2⟩ := info_parts infoBl
  exact ⟨Tryz.underlying99, ⟨i, _, hi, hz, h1, h2, rfl⟩, by decide⟩
theorem own_two {w : World} {base base' z z' n n' : Nat} {e e' : TypeId} {v v' : Value} {xs xs' : List Value} (h : w.ownsRow base e z v n xs) (h' : w.ownsRow base' e' z' v' n' xs') (hne : e ≠ e') :
    v'.ownBlock = none ∨ v'.ownBlock ≠ v.ownBlock := by
  rcases h.2 with ⟨rfl, _⟩ | ⟨g, cap, cur, rfl, _, hh, _⟩
  · rcases h'.2 with ⟨rfl, _⟩ | ⟨g', cap', cur', rfl, _, hh', _⟩
    · exact .inl rfl
    · exact .inr (by simp [Value.ownBlock])
  · rcases h'.2 with ⟨rfl, _⟩ | ⟨g', cap', cur', rfl, _, hh', _⟩
    · exact .inl rfl
    · right
      intro e1
      have : g' = g := by simpa [Value.ownBlock] using e1
      subst this
      rw [hh] at hh'
      injection hh' with hh'
      injection hh' with _ h5 _
      exact hne h5
def joinW : List (List UInt8) → List UInt8
  | [] => []
  | w :: l => w ++ (if l = [] then [] else 32 :: joinW l)
def IsW (w : List UInt8) : Prop := w ≠ [] ∧ ∀ c ∈ w, itB c = true
theorem span_word : ∀ {w : List UInt8} (R : List UInt8), (∀ c ∈ w, itB c = true) → spanL itB (w ++ R) = w.length + spanL itB R
  | [], R, _ => by simp
  | c :: t, R, h => by
    rw [List.cons_append, spanL, if_pos (h c (by simp)), span_word R fun x hx => h x (by simp [hx]), List.length_cons]
    omega
theorem span_join {w : List UInt8} {l : List (List UInt8)} (h : IsW w) : spanL itB (joinW (w :: l)) = w.length := by
  rw [joinW, span_word _ h.2]
  split <;> rfl
theorem join_head {w : List UInt8} {l : List (List UInt8)} (h : IsW w) : [34].isPrefixOf (joinW (w :: l)) = false := by
  obtain ⟨h1, h2⟩ := h
  cases w with
  | nil => exact absurd rfl h1
  | cons c t =>
    have hc := h2 c (by simp)
    rw [joinW, List.cons_append, List.isPrefixOf]
    have : (34 == c) = false := by
      rw [beq_eq_false_iff_ne]
      intro e
      subst e
      revert hc
      decide
    rw [this]
    rfl
abbrev strV (l : List UInt8) : Value := .string ⟨l.toArray⟩
def boolsV (n : Nat) : List Value := List.replicate n (.bool false)
theorem boolsV_succ (n : Nat) : boolsV (n + 1) = boolsV n ++ [.bool false] := List.replicate_succ'
def strLen : Value → Nat
  | .string s => s.size
  | _ => 0
def ItemsRet (ws : List (List UInt8)) (w : World) (e : Ending) (w' : World) : Prop := ∃ A c B d, e = .returned (.tuple #[.slice A ws.length c, .slice B ws.length d, .bool true]) ∧ w'.ownsRow w.heap.size 9 1 (.slice A ws.length c) ws.length (ws.map strV) ∧
  w'.ownsRow w.heap.size 4 1 (.slice B ws.length d) ws.length (boolsV ws.length) ∧ Below w.heap.size w w'
set_option maxHeartbeats 4000000 in
set_option maxRecDepth 100000 in
theorem Items_any {s : ByteArray} {ws : List (List UInt8)} (hs : IsStr s (joinW ws)) (hne : ws ≠ []) (hw : ∀ x ∈ ws, IsW x) (hl : (joinW ws).length ≤ 1000000) (hn : ws.length ≤ 1000) (w : World) :
    Calls Tryz.prog 41 #[.string s] w (ItemsRet ws w) := by
  have HW := Lib.hid hw
  have HS := Lib.hid hs
  have HL := Lib.hid hl
  have HNE := Lib.hid hne
  clear hw hs hl hne
  go_enter Tryz.func41, Tryz.ntmps41
  go_wp2_with fail
  go_loopw [0, 5, 6] (fun lv tv qv wr => ∃ (D R : List (List UInt8)) (t : ByteArray) (A B : Option Addr) (c d : Nat), lv = .string t ∧ IsStr t (joinW R) ∧ R ≠ [] ∧ ws = D ++ R ∧ (joinW R).length ≤ 1000000 ∧ tv = .slice A D.length c ∧ qv = .slice B D.length d ∧
      wr.ownsRow w.heap.size 9 1 (.slice A D.length c) D.length (D.map strV) ∧ wr.ownsRow w.heap.size 4 1 (.slice B D.length d) D.length (boolsV D.length) ∧ Below w.heap.size w wr) (fun lv _ _ _ => strLen lv)
  case atStart => exact ⟨[], ws, s, none, none, 0, 0, rfl, HS.out, HNE.out, rfl, HL.out, rfl, rfl, World.ownsRow_nil _ _ _ _, World.ownsRow_nil _ _ _ _, Below.refl _ _⟩
  case round =>
    obtain ⟨D, R, t, A, B, c, d, rfl, ht, hR, hD, hRl, rfl, rfl, ho1, ho2, hb⟩ := hrel
    cases R with
    | nil => exact absurd rfl hR
    | cons x R =>
      have HT := Lib.hid ht
      have HD := Lib.hid hD
      have HB := Lib.hid hb
      have hx : IsW x := HW.out x (by rw [hD]; simp)
      have hDn : D.length + (R.length + 1) ≤ 1000 := by rw [hD] at hn; simpa using hn
      have hxn : 0 < x.length := List.length_pos_iff.2 hx.1
      have hxd : decide (0 < x.length) = true := by simpa using hxn
      have hI := item_any ht hRl (join_head hx) wr
      rw [span_join hx, hxd, show (joinW (x :: R)).take x.length = x by rw [joinW, List.take_left]] at hI
      have HI := Lib.hid hI
      have hjl : (joinW (x :: R)).length = x.length + (if R = [] then 0 else 1 + (joinW R).length) := by
        rw [joinW, List.length_append]
        split <;> simp <;> omega
      have hts := ht.size
      have HJ := Lib.hid hjl
      have HTS := Lib.hid hts
      have hws := hb.size
      clear hI ht hD hR hx hxd hjl hts hb
      go_wp2_with fail
      refine HI.out.mono ?_
      rintro e w' ⟨rfl, rfl⟩
      clear HI
      go_wp2_with (at_builtin; go_must (refine wpList_push rfl _ _ _ rfl w.heap.size rowSr A D.length c _ rfl ho1 [strV x] _ rfl rfl (by simp [Value.oneCell', strV]) (by unfold maxLen; omega) (by omega) hws ?_))
      intro A1 c1 W1 hc1 ho3 hg1
      have ho4 : W1.ownsRow w.heap.size 4 1 (.slice B D.length d) D.length (boolsV D.length) := ho2.kept hg1 (own_two ho1 ho2 (by decide))
      have hb1 : Below w.heap.size w W1 := HB.out.grown hg1 hws (own_ge ho1)
      have hws1 := hb1.size
      clear ho1 ho2 hg1 HB
      go_wp2_with (at_builtin; go_must (refine wpList_push rfl _ _ _ rfl w.heap.size rowBl B D.length d _ rfl ho4 [.bool false] _ rfl rfl (by simp [Value.oneCell']) (by unfold maxLen; omega) (by omega) hws1 ?_))
      intro B1 d1 W2 hd1 ho5 hg2
      have ho6 : W2.ownsRow w.heap.size 9 1 (.slice A1 (D.length + 1) c1) (D.length + 1) (D.map strV ++ [strV x]) := ho3.kept hg2 (own_two ho4 ho3 (by decide))
      have hb2 : Below w.heap.size w W2 := hb1.grown hg2 hws1 (own_ge ho4)
      rw [← boolsV_succ] at ho5
      rw [show D.map strV ++ [strV x] = (D ++ [x]).map strV by simp] at ho6
      have HO5 := Lib.hid ho5
      have HO6 := Lib.hid ho6
      have HB2 := Lib.hid hb2
      clear ho3 ho4 ho5 ho6 hb1 hb2 hg2 hws1 hws hc1 hd1
      by_cases hRe : R = []
      · subst hRe
        have h1 : x.length = t.size := by rw [HTS.out, HJ.out]; simp
        have h1' : ((x.length : Int) == (t.size : Int)) = true := by rw [h1]; simp
        have HR := Lib.hid (show ItemsRet ws w (.returned (.tuple #[.slice A1 (D.length + 1) c1, .slice B1 (D.length + 1) d1, .bool true])) W2 by
          have : ws.length = D.length + 1 := by rw [HD.out]; simp
          refine ⟨A1, c1, B1, d1, by rw [this], ?_, ?_, HB2.out⟩
          · rw [this, HD.out]; exact HO6.out
          · rw [this]; exact HO5.out)
        clear HO5 HO6 HB2
        go_wp2
        go_ret3
        exact HR.out
      · have h1 : x.length < t.size := by rw [HTS.out, HJ.out, if_neg hRe]; omega
        have h1' : ((x.length : Int) == (t.size : Int)) = false := by simp; omega
        have hts2 : t.size ≤ 1000000 := by rw [HTS.out]; exact hRl
        have e1 := s_byte HT.out x.length h1 (by rw [← HTS.out]; exact h1)
        have e2 : (joinW (x :: R))[x.length]'(by rw [← HTS.out]; exact h1) = 32 := by
          simp [joinW, hRe]
        rw [e2] at e1
        have HP := Lib.hid (s_drop HT.out (x.length + 1))
        have hdr : (joinW (x :: R)).drop (x.length + 1) = joinW R := by
          rw [joinW, if_neg hRe, List.drop_length_add_append]
          rfl
        rw [hdr] at HP
        have hjr : (joinW R).length ≤ 1000000 := by
          have := HJ.out
          rw [if_neg hRe] at this
          omega
        clear e2 hdr
        generalize hby : t[x.length] = b at *
        subst e1
        go_wp2
        go_roundw
        case rel => exact ⟨D ++ [x], R, _, A1, B1, c1, d1, rfl, HP.out, hRe, by rw [HD.out]; simp, hjr, by simp, by simp, by simpa using HO6.out, by simpa using HO5.out, HB2.out⟩
        case measure => simp [strLen, ByteArray.size_extract]; omega
end Go.Proofs.YtnkelhmjkmeilaaGreatDoor.H
end
section
namespace Go.Proofs.YtnkelhmjkmeilaaGreatDoor.H
open Go.RowKit
set_option maxHeartbeats 2000000 in
set_option maxRecDepth 100000 in
theorem Index_bools {w : World} {a : Addr} {n c : Nat} (h : ∀ j, j < n → w.cell? (a.add j) = some (.bool false)) (hn : n ≤ 1000000) :
    Calls Tryz.prog 89 #[.slice (some a) n c, .bool true] w fun e w' => e = .returned (.int .i64 (-1)) ∧ w' = w := by
  go_enter Tryz.func89, Tryz.ntmps89
  go_wp2
  go_loopw [8] (fun i wr => ∃ k : Nat, i = .int .i64 k ∧ k ≤ n ∧ wr = w) (fun i _ => n - (intOf i).toNat)
  case atStart => exact ⟨0, rfl, Nat.zero_le _, rfl⟩
  case round =>
    obtain ⟨k, rfl, hk, rfl⟩ := hrel
    by_cases hlt : k < n
    · have hc := h k hlt
      have hlt' : (k : Int) < (n : Int) := by omega
      have hb : ((true : Bool) == false) = false := rfl
      go_wp2
      go_roundw
      case rel => exact ⟨k + 1, by go_num, by omega, by trivial⟩
      case measure => simp [intOf]; omega
    · have hlt' : ¬ (k : Int) < (n : Int) := by omega
      go_wp2
      go_ret
      exact ⟨rfl, rfl⟩
theorem Contains_bools {w : World} {a : Addr} {n c : Nat} (h : ∀ j, j < n → w.cell? (a.add j) = some (.bool false)) (hn : n ≤ 1000000) :
    Calls Tryz.prog 57 #[.slice (some a) n c, .bool true] w fun e w' => e = .returned (.bool false) ∧ w' = w := by
  go_enter Tryz.func57, Tryz.ntmps57
  go_wp2_with fail
  refine (Index_bools h hn).mono ?_
  rintro e w' ⟨rfl, rfl⟩
  go_wp2
  go_ret
  exact ⟨rfl, rfl⟩
end Go.Proofs.YtnkelhmjkmeilaaGreatDoor.H
end
