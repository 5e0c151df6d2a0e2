/- container/heap over a queue of steps. -/
import Derived.Test.YtbipdnnalhdoaaaHc
namespace Go.Proofs.Ytbipdnnalhdoaaa
open Go.RowKit Go.Maps Go.WideMaps
attribute [local go_sem ↓] Go.wp_at_zero Go.wp_at_succ

theorem qlen_any {w : World} {A : Option Addr} {n c : Nat} : Calls Try.prog 78 #[.slice A n c] w fun e w' => e = .returned (.int .i64 n) ∧ w = w' := by
  go_enter Try.func78, Try.ntmps78
  go_wp2
  go_ret
  exact ⟨rfl, rfl⟩

theorem mth_push (a : Addr) (n : Nat) (w : World) : (method (n + 1) 94 (.pointer (some a)) "Push").run Try.prog w = .ok (85, .pointer (some a)) w := by kernel_rfl
theorem mth_pop (a : Addr) (n : Nat) (w : World) : (method (n + 1) 94 (.pointer (some a)) "Pop").run Try.prog w = .ok (84, .pointer (some a)) w := by kernel_rfl
theorem mth_len0 (a : Addr) (n : Nat) (w : World) : (method (n + 1) 94 (.pointer (some a)) "Len").run Try.prog w = (do let v ← loadVar 81 a; pure (78, v) : Sem (FuncId × Value)).run Try.prog w := by kernel_rfl
theorem mth_less0 (a : Addr) (n : Nat) (w : World) : (method (n + 1) 94 (.pointer (some a)) "Less").run Try.prog w = (do let v ← loadVar 81 a; pure (79, v) : Sem (FuncId × Value)).run Try.prog w := by kernel_rfl
theorem mth_swap0 (a : Addr) (n : Nat) (w : World) : (method (n + 1) 94 (.pointer (some a)) "Swap").run Try.prog w = (do let v ← loadVar 81 a; pure (80, v) : Sem (FuncId × Value)).run Try.prog w := by kernel_rfl
theorem load_q {a : Addr} {w : World} {A : Option Addr} {n c : Nat} (h : w.cell? a = some (.slice A n c)) : (loadVar 81 a).run Try.prog w = .ok (.slice A n c) w := by
  have hu := Try.underlying81
  go_simp
theorem mth_len {a : Addr} {w : World} {A : Option Addr} {n c : Nat} (h : w.cell? a = some (.slice A n c)) (k : Nat) : (method (k + 1) 94 (.pointer (some a)) "Len").run Try.prog w = .ok (78, .slice A n c) w := by
  rw [mth_len0, Sem.run_bind, load_q h]; rfl
theorem mth_less {a : Addr} {w : World} {A : Option Addr} {n c : Nat} (h : w.cell? a = some (.slice A n c)) (k : Nat) : (method (k + 1) 94 (.pointer (some a)) "Less").run Try.prog w = .ok (79, .slice A n c) w := by
  rw [mth_less0, Sem.run_bind, load_q h]; rfl
theorem mth_swap {a : Addr} {w : World} {A : Option Addr} {n c : Nat} (h : w.cell? a = some (.slice A n c)) (k : Nat) : (method (k + 1) 94 (.pointer (some a)) "Swap").run Try.prog w = .ok (80, .slice A n c) w := by
  rw [mth_swap0, Sem.run_bind, load_q h]; rfl

/-- nothing but the blocks of S has changed -/
structure Kb (w w' : World) (S : Nat → Prop) : Prop where
  os : w'.os = w.os
  tape : w'.tape = w.tape
  output : w'.output = w.output
  size : w.heap.size ≤ w'.heap.size
  block : ∀ k, k < w.heap.size → ¬ S k → w'.heap[k]? = w.heap[k]?
theorem Kb.refl (w : World) (S : Nat → Prop) : Kb w w S := ⟨rfl, rfl, rfl, Nat.le_refl _, fun _ _ _ => rfl⟩
theorem Kb.trans {w w' w'' : World} {S : Nat → Prop} (h : Kb w w' S) (h' : Kb w' w'' S) : Kb w w'' S :=
  ⟨h'.os.trans h.os, h'.tape.trans h.tape, h'.output.trans h.output, Nat.le_trans h.size h'.size, fun k hk hn => (h'.block k (Nat.lt_of_lt_of_le hk h.size) hn).trans (h.block k hk hn)⟩
theorem Kb.more {w w' : World} {S S' : Nat → Prop} (h : Kb w w' S) (hS : ∀ k, S k → S' k) : Kb w w' S' := ⟨h.os, h.tape, h.output, h.size, fun k hk hn => h.block k hk fun hs => hn (hS k hs)⟩
theorem Kb.grown {w w' : World} {r : Option Nat} {S : Nat → Prop} (h : w.grownBy w' r) (hS : ∀ k, r = some k → S k) : Kb w w' S := ⟨h.os, h.tape, h.output, h.size, fun k hk hn => h.block k hk fun e => hn (hS k e.symm)⟩
theorem Kb.of_below {w w' : World} {S : Nat → Prop} (h : Below w.heap.size w w') : Kb w w' S := ⟨h.os, h.tape, h.output, h.size, fun k hk _ => h.block k hk⟩
theorem Kb.below {w0 w w' : World} {B : Nat} {S : Nat → Prop} (h : Kb w w' S) (hb : Below B w0 w) (hB : B ≤ w.heap.size) (hS : ∀ k, S k → B ≤ k) : Below B w0 w' :=
  ⟨h.os.trans hb.os, h.tape.trans hb.tape, h.output.trans hb.output, Nat.le_trans hb.size h.size, fun k hk => (h.block k (by omega) fun hs => by have := hS k hs; omega).trans (hb.block k hk)⟩

/-- THE CELL o OF BLOCK fb HOLDS A SLICE THAT READS AS THE STEPS q, in a block of its own -/
structure QIs (w : World) (base fb o : Nat) (T : TypeId) (arr : Array Value) (A : Option Addr) (c : Nat) (q : List Stp) : Prop where
  var : w.heap[fb]? = some (.cells arr T (0, 0))
  val : arr[o]? = some (.slice A q.length c)
  row : w.ownsRow base 72 5 (.slice A q.length c) q.length (stCs q)
  ne : (Value.slice A q.length c).ownBlock ≠ some fb
section
variable {w w' : World} {base fb o : Nat} {T : TypeId} {arr : Array Value} {A : Option Addr} {c g : Nat} {q q' : List Stp}
theorem QIs.cell (h : QIs w base fb o T arr A c q) : w.cell? ⟨fb, o, none⟩ = some (.slice A q.length c) := (Lib.cell_of_heap h.var o).trans h.val
theorem QIs.rd (h : QIs w base fb o T arr A c q) : Rd w w.heap.size 5 A q.length (stCs q) := Rd.of_own h.row
theorem QIs.lt (h : QIs w base fb o T arr A c q) : fb < w.heap.size := (Array.getElem?_eq_some_iff.1 h.var).1
theorem QIs.below (h : QIs w base fb o T arr A c q) (hb : Below w.heap.size w w') : QIs w' base fb o T arr A c q :=
  ⟨(hb.block fb h.lt).trans h.var, h.val, own_below h.row hb (Nat.le_refl _), h.ne⟩
/-- the row has changed, in its place -/
theorem QIs.swap (h : QIs w base fb o T arr (some ⟨g, 0, none⟩) c q) (hl : q'.length = q.length) (hr : w'.ownsRow base 72 5 (.slice (some ⟨g, 0, none⟩) q.length c) q.length (stCs q')) (hg : w.grownBy w' (some g)) : QIs w' base fb o T arr (some ⟨g, 0, none⟩) c q' := by
  refine ⟨(hg.block fb h.lt fun e => h.ne ?_).trans h.var, by rw [hl]; exact h.val, by rw [hl]; exact hr, fun e => h.ne ?_⟩
  · injection e with e; rw [e]; rfl
  · exact e
end

set_option maxHeartbeats 1000000 in
set_option maxRecDepth 100000 in
/-- up -/
theorem up_any {w : World} {base fb o : Nat} {T : TypeId} {arr : Array Value} {g c j : Nat} {q : List Stp} (h : QIs w base fb o T arr (some ⟨g, 0, none⟩) c q) (hj : j < q.length) (hI : UpI (cs q) q.length j) (hl : q.length ≤ 1000000000000) :
    Calls Try.prog 57 #[.iface 94 (.pointer (some ⟨fb, o, none⟩)), .int .i64 j] w fun e w' => e = .returned (.tuple #[]) ∧ ∃ q', QIs w' base fb o T arr (some ⟨g, 0, none⟩) c q' ∧ q'.Perm q ∧ Heap q' ∧ Kb w w' (· = g) := by
  go_enter Try.func57, Try.ntmps57
  go_wp2
  go_loopw [1] (fun jv wr => ∃ (j : Nat) (q' : List Stp), jv = .int .i64 j ∧ j < q'.length ∧ Hid (UpI (cs q') q'.length j) ∧ QIs wr base fb o T arr (some ⟨g, 0, none⟩) c q' ∧ Hid (q'.Perm q) ∧ Kb w wr (· = g)) (fun jv _ => (intOf jv).toNat)
  case atStart => exact ⟨j, q, rfl, hj, hI, h, List.Perm.refl _, Kb.refl _ _⟩
  case round =>
    obtain ⟨j, q', rfl, hj, hI, h, hp, hk⟩ := hrel
    have hql : q'.length ≤ 1000000000000 := by rw [hp.out.length_eq]; exact hl
    have mL := mth_less h.cell
    have mS := mth_swap h.cell
    have HQ := Lib.hid h
    have HK := Lib.hid hk
    clear h hk
    by_cases hj0 : j = 0
    · subst hj0
      have HH := Lib.hid (hI.out.done (.inl rfl))
      have hz : ((0 : Nat) : Int) = 0 := rfl
      rw [hz]
      clear hI
      go_wp2
      exact bodyPost_end (results_none rfl _ _ _) rfl ⟨rfl, q', HQ.out, hp.out, HH.out, HK.out⟩
    · obtain ⟨p, hpj⟩ : ∃ p, p = (j - 1) / 2 := ⟨_, rfl⟩
      have hpl : p < j := by omega
      have hpq : p < q'.length := by omega
      have hq : ((j : Int) - 1) / 2 = (p : Int) := by omega
      have hne : ((p : Int) == (j : Int)) = false := by simp; omega
      have hj1 : (1 : Int) ≤ (j : Int) := by omega
      have hjb : (j : Int) ≤ 140737488355328 := by omega
      have HP := Lib.hid hpj
      clear hpj hj0
      go_wp2_with fail
      refine (less_any HQ.out.rd hj hpq).mono ?_
      rintro e W1 ⟨rfl, b1⟩
      have hQ1 := HQ.out.below b1
      have hK1 := HK.out.trans (Kb.of_below (S := (· = g)) b1)
      clear mL mS b1
      cases hlt : ltS q'[j] q'[p] with
      | false =>
        have HH := Lib.hid (hI.out.done (.inr (by rw [← HP.out, cs_at hj, cs_at hpq]; exact ltS_ge hlt)))
        have HQ1 := Lib.hid hQ1
        clear hI hlt hQ1
        go_wp2
        exact bodyPost_end (results_none rfl _ _ _) rfl ⟨rfl, q', HQ1.out, hp.out, HH.out, hK1⟩
      | true =>
        have hI2 := hI.out.step (c' := cs (sw q' p j)) (by omega) hj (by rw [← HP.out, cs_at hj, cs_at hpq]; exact ltS_le hlt) (fun k => by rw [sw_cs hpq hj, ← HP.out])
        rw [← HP.out] at hI2
        have HI2 := Lib.hid hI2
        have mS := mth_swap hQ1.cell
        have HQ1 := Lib.hid hQ1
        have HK1 := Lib.hid hK1
        clear hI hlt hQ1 hI2 hK1
        go_wp2_with fail
        refine (swap_any HQ1.out.row hpq hj).mono ?_
        rintro e W2 ⟨rfl, hr, hg, hs⟩
        have hsl := sw_length q' p j
        have hQ2 := HQ1.out.swap hsl hr hg
        have HQ2 := Lib.hid hQ2
        have HK2 := Lib.hid (HK1.out.trans (Kb.grown (S := (· = g)) hg (fun k e => by injection e with e; exact e.symm)))
        have HSL := Lib.hid hsl
        clear hr hg hs hQ2 hsl mS
        go_wp2
        go_roundw
        case rel => exact ⟨p, sw q' p j, rfl, by rw [HSL.out]; exact hpq, by have := HI2.out; rw [HSL.out]; exact this, HQ2.out, (sw_perm q' p j).trans hp.out, HK2.out⟩
        case measure => simp [intOf]; omega

set_option maxHeartbeats 2000000 in
set_option maxRecDepth 100000 in
/-- down -/
theorem down_any {w : World} {base fb o : Nat} {T : TypeId} {arr : Array Value} {g c n : Nat} {q : List Stp} (h : QIs w base fb o T arr (some ⟨g, 0, none⟩) c q) (hn : n < q.length) (hI : DnI (cs q) n 0) (hl : q.length ≤ 1000000000000) :
    Calls Try.prog 55 #[.iface 94 (.pointer (some ⟨fb, o, none⟩)), .int .i64 0, .int .i64 n] w fun e w' => (∃ b, e = .returned (.bool b)) ∧ ∃ q', QIs w' base fb o T arr (some ⟨g, 0, none⟩) c q' ∧ q'.Perm q ∧ HO (cs q') n ∧ (∀ k, n ≤ k → q'[k]? = q[k]?) ∧ Kb w w' (· = g) := by
  go_enter Try.func55, Try.ntmps55
  go_wp2
  go_loopw [7] (fun iv wr => ∃ (i : Nat) (q' : List Stp), iv = .int .i64 i ∧ (i = 0 ∨ i < n) ∧ Hid (DnI (cs q') n i) ∧ QIs wr base fb o T arr (some ⟨g, 0, none⟩) c q' ∧ Hid (q'.Perm q ∧ ∀ k, n ≤ k → q'[k]? = q[k]?) ∧ Kb w wr (· = g)) (fun iv _ => n - (intOf iv).toNat)
  case atStart => exact ⟨0, q, rfl, .inl rfl, hI, h, ⟨List.Perm.refl _, fun _ _ => rfl⟩, Kb.refl _ _⟩
  case round =>
    clear h
    obtain ⟨i, q', rfl, hi, hI, h, hp, hk⟩ := hrel
    have hql : q'.length ≤ 1000000000000 := by rw [hp.out.1.length_eq]; exact hl
    have hnl : n < q'.length := by rw [hp.out.1.length_eq]; exact hn
    have HQ := Lib.hid h
    have HK := Lib.hid hk
    clear h hk hn
    have hib : i ≤ 1000000000000 := by omega
    have hibI : (i : Int) ≤ 1000000000000 := by omega
    by_cases hj1 : 2 * i + 1 < n
    · have hI1 : ¬ ((n : Int) ≤ 2 * (i : Int) + 1) := by omega
      have hI0 : ¬ (2 * (i : Int) + 1 < 0) := by omega
      have hin : i < n := by omega
      have hiq : i < q'.length := by omega
      by_cases hj2 : 2 * i + 2 < n
      · have hJ2 : 2 * (i : Int) + 1 + 1 < (n : Int) := by omega
        obtain ⟨k1, hk1⟩ : ∃ k1, k1 = 2 * i + 1 := ⟨_, rfl⟩
        obtain ⟨k2, hk2⟩ : ∃ k2, k2 = 2 * i + 2 := ⟨_, rfl⟩
        have hq1 : k1 < q'.length := by omega
        have hq2 : k2 < q'.length := by omega
        have mL := mth_less HQ.out.cell
        have HE := Lib.hid (And.intro hk1 hk2)
        clear hk1 hk2
        go_wp2_with fail
        have he1 : (k1 : Int) + 1 = (k2 : Int) := by have := HE.out; omega
        have he2 : 2 * (i : Int) + 1 = (k1 : Int) := by have := HE.out; omega
        simp only [he2, he1]
        clear he1 he2 mL
        refine (less_any HQ.out.rd hq2 hq1).mono ?_
        rintro e W1 ⟨rfl, b1⟩
        have HQ1 := Lib.hid (HQ.out.below b1)
        have HK1 := Lib.hid (HK.out.trans (Kb.of_below (S := (· = g)) b1))
        clear b1
        cases hc : ltS q'[k2] q'[k1] with
        | true =>
          have hcc := ltS_le hc
          rw [← cs_at hq2, ← cs_at hq1] at hcc
          have hmin := Lib.hid (show ∀ k, 0 < k → k < n → (k - 1) / 2 = i → cs q' k2 ≤ cs q' k from fun k hk hkn hkp => by
            obtain ⟨e1, e2⟩ := HE.out
            have : k = k1 ∨ k = k2 := by omega
            rcases this with rfl | rfl
            · exact hcc
            · exact Nat.le_refl _)
          obtain ⟨j, hj⟩ : ∃ j, j = k2 := ⟨_, rfl⟩
          rw [← hj] at hmin ⊢
          have hjn : j < n := by have := HE.out; omega
          have hjz : 0 < j := by have := HE.out; omega
          have hjq : j < q'.length := by omega
          have hjp : (j - 1) / 2 = i := by have := HE.out; omega
          have HJP := Lib.hid hjp
          clear hc hcc hj hjp hj1 hj2
          go_upto_region 8 with fail
          have hjp := HJP.out
          clear HJP HQ HK
          have mL2 := mth_less HQ1.out.cell
          go_wp2_with fail
          refine (less_any HQ1.out.rd hjq hiq).mono ?_
          rintro e W2 ⟨rfl, b2⟩
          have hQ2 := HQ1.out.below b2
          have hK2 := HK1.out.trans (Kb.of_below (S := (· = g)) b2)
          clear mL2 b2
          cases hlt : ltS q'[j] q'[i] with
          | false =>
            have HH := Lib.hid (hI.out.done fun k hk hkn hkp => Nat.le_trans (by rw [cs_at hjq, cs_at hiq]; exact ltS_ge hlt) (hmin.out k hk hkn hkp))
            have HQ2 := Lib.hid hQ2
            clear hI hlt hQ2
            go_wp2
            go_ret
            exact ⟨⟨_, rfl⟩, q', HQ2.out, hp.out.1, HH.out, hp.out.2, hK2⟩
          | true =>
            have hij : i < j := by omega
            have hI2 := hI.out.step (c' := cs (sw q' i j)) hjp (by omega) hjn (by rw [cs_at hjq, cs_at hiq]; exact ltS_le hlt) hmin.out (fun k => sw_cs hiq hjq k)
            have HI2 := Lib.hid hI2
            clear hjp
            have mS := mth_swap hQ2.cell
            have HQ2 := Lib.hid hQ2
            have HK2 := Lib.hid hK2
            clear hI hlt hQ2 hI2 hK2
            go_wp2_with fail
            refine (swap_any HQ2.out.row hiq hjq).mono ?_
            rintro e W3 ⟨rfl, hr, hg, hs⟩
            have hsl := sw_length q' i j
            have hQ3 := HQ2.out.swap hsl hr hg
            have HQ3 := Lib.hid hQ3
            have HK3 := Lib.hid (HK2.out.trans (Kb.grown (S := (· = g)) hg (fun k e => by injection e with e; exact e.symm)))
            have HP3 := Lib.hid (show (sw q' i j).Perm q ∧ ∀ k, n ≤ k → (sw q' i j)[k]? = q[k]? from ⟨(sw_perm q' i j).trans hp.out.1, fun k hk => by rw [sw_at hiq hjq, if_neg (show ¬ k = j by omega), if_neg (show ¬ k = i by omega)]; exact hp.out.2 k hk⟩)
            clear hr hg hs hQ3 hsl mS
            go_wp2
            go_roundw
            case rel => exact ⟨j, sw q' i j, rfl, .inr hjn, HI2.out, HQ3.out, HP3.out, HK3.out⟩
            case measure => simp [intOf]; omega
        | false =>
          have hcc := ltS_ge hc
          rw [← cs_at hq2, ← cs_at hq1] at hcc
          have hmin := Lib.hid (show ∀ k, 0 < k → k < n → (k - 1) / 2 = i → cs q' k1 ≤ cs q' k from fun k hk hkn hkp => by
            obtain ⟨e1, e2⟩ := HE.out
            have : k = k1 ∨ k = k2 := by omega
            rcases this with rfl | rfl
            · exact Nat.le_refl _
            · exact hcc)
          obtain ⟨j, hj⟩ : ∃ j, j = k1 := ⟨_, rfl⟩
          rw [← hj] at hmin ⊢
          have hjn : j < n := by have := HE.out; omega
          have hjz : 0 < j := by have := HE.out; omega
          have hjq : j < q'.length := by omega
          have hjp : (j - 1) / 2 = i := by have := HE.out; omega
          have HJP := Lib.hid hjp
          clear hc hcc hj hjp hj1 hj2
          go_upto_region 8 with fail
          have hjp := HJP.out
          clear HJP HQ HK
          have mL2 := mth_less HQ1.out.cell
          go_wp2_with fail
          refine (less_any HQ1.out.rd hjq hiq).mono ?_
          rintro e W2 ⟨rfl, b2⟩
          have hQ2 := HQ1.out.below b2
          have hK2 := HK1.out.trans (Kb.of_below (S := (· = g)) b2)
          clear mL2 b2
          cases hlt : ltS q'[j] q'[i] with
          | false =>
            have HH := Lib.hid (hI.out.done fun k hk hkn hkp => Nat.le_trans (by rw [cs_at hjq, cs_at hiq]; exact ltS_ge hlt) (hmin.out k hk hkn hkp))
            have HQ2 := Lib.hid hQ2
            clear hI hlt hQ2
            go_wp2
            go_ret
            exact ⟨⟨_, rfl⟩, q', HQ2.out, hp.out.1, HH.out, hp.out.2, hK2⟩
          | true =>
            have hij : i < j := by omega
            have hI2 := hI.out.step (c' := cs (sw q' i j)) hjp (by omega) hjn (by rw [cs_at hjq, cs_at hiq]; exact ltS_le hlt) hmin.out (fun k => sw_cs hiq hjq k)
            have HI2 := Lib.hid hI2
            clear hjp
            have mS := mth_swap hQ2.cell
            have HQ2 := Lib.hid hQ2
            have HK2 := Lib.hid hK2
            clear hI hlt hQ2 hI2 hK2
            go_wp2_with fail
            refine (swap_any HQ2.out.row hiq hjq).mono ?_
            rintro e W3 ⟨rfl, hr, hg, hs⟩
            have hsl := sw_length q' i j
            have hQ3 := HQ2.out.swap hsl hr hg
            have HQ3 := Lib.hid hQ3
            have HK3 := Lib.hid (HK2.out.trans (Kb.grown (S := (· = g)) hg (fun k e => by injection e with e; exact e.symm)))
            have HP3 := Lib.hid (show (sw q' i j).Perm q ∧ ∀ k, n ≤ k → (sw q' i j)[k]? = q[k]? from ⟨(sw_perm q' i j).trans hp.out.1, fun k hk => by rw [sw_at hiq hjq, if_neg (show ¬ k = j by omega), if_neg (show ¬ k = i by omega)]; exact hp.out.2 k hk⟩)
            clear hr hg hs hQ3 hsl mS
            go_wp2
            go_roundw
            case rel => exact ⟨j, sw q' i j, rfl, .inr hjn, HI2.out, HQ3.out, HP3.out, HK3.out⟩
            case measure => simp [intOf]; omega
      · have hJ2 : ¬ (2 * (i : Int) + 1 + 1 < (n : Int)) := by omega
        obtain ⟨j, hj⟩ : ∃ j, j = 2 * i + 1 := ⟨_, rfl⟩
        have hmin := Lib.hid (show ∀ k, 0 < k → k < n → (k - 1) / 2 = i → cs q' j ≤ cs q' k from fun k hk hkn hkp => by
          obtain rfl : k = j := by omega
          exact Nat.le_refl _)
        have hjn : j < n := by omega
        have hjz : 0 < j := by omega
        have hjq : j < q'.length := by omega
        have HJP := Lib.hid (show (j - 1) / 2 = i by omega)
        have HJ := Lib.hid hj
        have HQ1 := HQ
        have HK1 := HK
        clear hj hj1 hj2
        go_upto_region 8 with fail
        have he2 : 2 * (i : Int) + 1 = (j : Int) := by have := HJ.out; omega
        simp only [he2]
        clear he2
        have hjp := HJP.out
        clear HJP HQ HK HJ
        have mL2 := mth_less HQ1.out.cell
        go_wp2_with fail
        refine (less_any HQ1.out.rd hjq hiq).mono ?_
        rintro e W2 ⟨rfl, b2⟩
        have hQ2 := HQ1.out.below b2
        have hK2 := HK1.out.trans (Kb.of_below (S := (· = g)) b2)
        clear mL2 b2
        cases hlt : ltS q'[j] q'[i] with
        | false =>
          have HH := Lib.hid (hI.out.done fun k hk hkn hkp => Nat.le_trans (by rw [cs_at hjq, cs_at hiq]; exact ltS_ge hlt) (hmin.out k hk hkn hkp))
          have HQ2 := Lib.hid hQ2
          clear hI hlt hQ2
          go_wp2
          go_ret
          exact ⟨⟨_, rfl⟩, q', HQ2.out, hp.out.1, HH.out, hp.out.2, hK2⟩
        | true =>
          have hij : i < j := by omega
          have hI2 := hI.out.step (c' := cs (sw q' i j)) hjp (by omega) hjn (by rw [cs_at hjq, cs_at hiq]; exact ltS_le hlt) hmin.out (fun k => sw_cs hiq hjq k)
          have HI2 := Lib.hid hI2
          clear hjp
          have mS := mth_swap hQ2.cell
          have HQ2 := Lib.hid hQ2
          have HK2 := Lib.hid hK2
          clear hI hlt hQ2 hI2 hK2
          go_wp2_with fail
          refine (swap_any HQ2.out.row hiq hjq).mono ?_
          rintro e W3 ⟨rfl, hr, hg, hs⟩
          have hsl := sw_length q' i j
          have hQ3 := HQ2.out.swap hsl hr hg
          have HQ3 := Lib.hid hQ3
          have HK3 := Lib.hid (HK2.out.trans (Kb.grown (S := (· = g)) hg (fun k e => by injection e with e; exact e.symm)))
          have HP3 := Lib.hid (show (sw q' i j).Perm q ∧ ∀ k, n ≤ k → (sw q' i j)[k]? = q[k]? from ⟨(sw_perm q' i j).trans hp.out.1, fun k hk => by rw [sw_at hiq hjq, if_neg (show ¬ k = j by omega), if_neg (show ¬ k = i by omega)]; exact hp.out.2 k hk⟩)
          clear hr hg hs hQ3 hsl mS
          go_wp2
          go_roundw
          case rel => exact ⟨j, sw q' i j, rfl, .inr hjn, HI2.out, HQ3.out, HP3.out, HK3.out⟩
          case measure => simp [intOf]; omega
    · have hI1 : (n : Int) ≤ 2 * (i : Int) + 1 := by omega
      have HH := Lib.hid (hI.out.done fun k hk hkn hkp => by omega)
      clear hI
      go_wp2
      go_ret
      exact ⟨⟨_, rfl⟩, q', HQ.out, hp.out.1, HH.out, hp.out.2, HK.out⟩
end Go.Proofs.Ytbipdnnalhdoaaa
