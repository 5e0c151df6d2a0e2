/- The finder's machine; add, goOn. -/
import Derived.Test.YtbipdnnalhdoaaaHg
namespace Go.Proofs.Ytbipdnnalhdoaaa
open Go.RowKit Go.Maps Go.WideMaps
attribute [local go_sem ↓] Go.wp_at_zero Go.wp_at_succ

def topC : Nat := 4611686018427387904
/-- a sum that stays at the top -/
def addC (a b : Nat) : Nat := if topC ≤ a + b then topC else a + b
theorem addC_le (a b : Nat) : addC a b ≤ topC := by unfold addC; split <;> omega
theorem add_any {w : World} {a b : Nat} (ha : a ≤ topC) (hb : b ≤ topC) : Calls Try.prog 48 #[.int .i64 (a : Int), .int .i64 (b : Int)] w fun e w' => e = .returned (.int .i64 (addC a b : Int)) ∧ w = w' := by
  unfold topC at ha hb
  by_cases h : topC ≤ a + b
  · have hr := Lib.hid (show addC a b = topC by unfold addC; rw [if_pos h])
    unfold topC at h
    have h1 : (4611686018427387904 : Int) - (b : Int) ≤ (a : Int) := by omega
    go_enter Try.func48, Try.ntmps48
    go_wp2
    go_ret
    exact ⟨ret_int (by rw [hr.out]; rfl), rfl⟩
  · have hr := Lib.hid (show addC a b = a + b by unfold addC; rw [if_neg h])
    unfold topC at h
    have h1 : ¬ ((4611686018427387904 : Int) - (b : Int) ≤ (a : Int)) := by omega
    go_enter Try.func48, Try.ntmps48
    go_wp2
    go_ret
    exact ⟨ret_int (by rw [hr.out]; omega), rfl⟩

/-- a machine: so many labels, so many states of trees, so many of each side; what follows, and what is told -/
structure Mc where
  L : Nat
  K : Nat
  sz : Nat → Nat
  nx : Nat → Nat → Nat → Nat
  out : Nat → Nat → Nat
structure Mc.Ok (M : Mc) : Prop where
  pos : ∀ n, n ≤ M.L → 0 < M.sz n
  nx : ∀ n s t, n ≤ M.L → s < M.sz n → t < M.K → M.nx n s t < M.sz n
  out : ∀ n s, n < M.L → s < M.sz n → M.out n s < M.K
  fewL : M.L ≤ 100
  fewS : ∀ n, n ≤ M.L → M.sz n ≤ 400
  fewK : M.K ≤ 400
/-- THE VALUE mv IS THE MACHINE M, in every world that has grown out of w0 -/
def MachAt (w0 : World) (mv : Value) (M : Mc) : Prop := ∃ T v Fl Fn Fo, mv = .iface T v ∧
  (∀ k w, (method (k + 1) T v "strainer/hedge.labels").run Try.prog w = .ok (Fl, v) w) ∧ (∀ k w, (method (k + 1) T v "strainer/hedge.next").run Try.prog w = .ok (Fn, v) w) ∧ (∀ k w, (method (k + 1) T v "strainer/hedge.out").run Try.prog w = .ok (Fo, v) w) ∧
  (∀ args w, (callFunc Fl args).run Try.prog w = .ok (.enter Fl args) w) ∧ (∀ args w, (callFunc Fn args).run Try.prog w = .ok (.enter Fn args) w) ∧ (∀ args w, (callFunc Fo args).run Try.prog w = .ok (.enter Fo args) w) ∧
  (∀ w, Below w0.heap.size w0 w → Calls Try.prog Fl #[v] w fun e w' => e = .returned (.int .i64 (M.L : Int)) ∧ Below w.heap.size w w') ∧
  (∀ w n s t, Below w0.heap.size w0 w → n ≤ M.L → s < M.sz n → t < M.K → Calls Try.prog Fn #[v, .int .i64 (n : Int), .int .i64 (s : Int), .int .i64 (t : Int)] w fun e w' => e = .returned (.int .i64 (M.nx n s t : Int)) ∧ Below w.heap.size w w') ∧
  (∀ w n s, Below w0.heap.size w0 w → n ≤ M.L → s < M.sz n → Calls Try.prog Fo #[v, .int .i64 (n : Int), .int .i64 (s : Int)] w fun e w' => e = .returned (.int .i64 (M.out n s : Int)) ∧ Below w.heap.size w w')

theorem fld_mk (a b c d e f : Value) (w : World) : (Instr.field 96 (.agg #[a, b, c, d, e, f]) 0).run Try.prog w = .ok (.agg #[a, b, c, d, e]) w := by kernel_rfl
theorem fld_dn (a b c d e f : Value) (w : World) : (Instr.field 96 (.agg #[a, b, c, d, e, f]) 1).run Try.prog w = .ok f w := by kernel_rfl
theorem fld_st (a b c d e : Value) (w : World) : (Instr.field 72 (.agg #[a, b, c, d, e]) 1).run Try.prog w = .ok c w := by kernel_rfl
theorem fld_sr (a b c : Value) (w : World) : (Instr.field 76 (.agg #[a, b, c]) 1).run Try.prog w = .ok c w := by kernel_rfl

set_option maxHeartbeats 2000000 in
set_option maxRecDepth 100000 in
theorem goOn_any {w0 w : World} {own : FOwn} {base fb mm mf : Nat} {mv : Value} {f : FS} {M : Mc} (h : FIs w own base fb mm mf mv f) (hM : MachAt w0 mv M) (hO : M.Ok) (hb : Below w0.heap.size w0 w) (hB : w0.heap.size ≤ base) (hH : Heap f.q) (hl : f.q.length < 1000000000000)
    {n s t : Nat} (hn : n ≤ M.L) (hs : s < M.sz n) (ht : t < M.K) {k : Stp} {d : Bool} {src : Src} (hk : f.mar n s = some (k, d)) (hsrc : f.fnd t = some src) (hkc : k.cost ≤ topC) (hsc : src.cost ≤ topC) :
    Calls Try.prog 46 #[.pointer (some ⟨fb, 0, none⟩), .agg #[.int .i64 (n : Int), .int .i64 (s : Int)], .int .i64 (t : Int)] w fun e w' =>
      e = .returned (.tuple #[]) ∧ ∃ own' f', PutR f ⟨n, M.nx n s t, addC k.cost src.cost, s, t⟩ f' ∧ FIs w' own' base fb mm mf mv f' ∧ FStep w w' own own' ∧ FQu w w' own := by
  have hnb : n ≤ 1000000000000 := by have := hO.fewL; omega
  have hsb : s ≤ 1000000000000 := by have := hO.fewS n hn; omega
  have htb : t ≤ 1000000000000 := by have := hO.fewK; omega
  have hxb : M.nx n s t ≤ 1000000000000 := by have := hO.nx n s t hn hs ht; have := hO.fewS n hn; omega
  obtain ⟨l, hkey⟩ := keyPl hnb hsb
  have hB1 := (Below.refl _ w).alloc (Nat.le_refl _) (.cells #[.int .i64 (n : Int), .int .i64 (s : Int)] 70)
  have hx := heap_alloc_new w (.cells #[.int .i64 (n : Int), .int .i64 (s : Int)] 70)
  have h1 := h.below hB1 (Nat.le_refl _)
  have hsz : (w.alloc (.cells #[.int .i64 (n : Int), .int .i64 (s : Int)] 70)).heap.size = w.heap.size + 1 := World.size_alloc _ _
  have hw0 := hb.size
  go_enter Try.func46, Try.ntmps46
  go_wp2
  generalize w.alloc (.cells #[.int .i64 (n : Int), .int .i64 (s : Int)] 70) = W1 at *
  obtain ⟨A, c, AM, cM, AT, cT, MV, b1, _⟩ := h1.blk
  obtain ⟨n1, hm1⟩ := h1.mks
  obtain ⟨n2, hm2⟩ := h1.fns
  have hlk1 := hm1.drew.look placeK Try.underlying82 (zMk W1.drew) hkey false
  have hlk2 := hm2.drew.look intK Try.underlying83 (zSr W1.drew) (keyIn htb) false
  rw [mkF_at, hk] at hlk1
  rw [fnF_at, hsrc] at hlk2
  have hlk1' : (Instr.lookup 82 (.map (some mm)) (.agg #[.int .i64 (n : Int), .int .i64 (s : Int)]) false).run Try.prog W1.drew = .ok (.agg #[.int .i64 (k.num : Int), .int .i64 (k.st : Int), .int .i64 (k.cost : Int), .int .i64 k.frm, .int .i64 k.tree, .bool d]) W1.drew := hlk1
  have hlk2' : (Instr.lookup 83 (.map (some mf)) (.int .i64 (t : Int)) false).run Try.prog W1.drew = .ok (.agg #[.int .i64 (src.num : Int), .int .i64 (src.st : Int), .int .i64 (src.cost : Int)]) W1.drew := hlk2
  have c0 := Lib.cell_of_heap b1 0
  have c2 := Lib.cell_of_heap b1 2
  have c5 := Lib.cell_of_heap b1 5
  have x0 := Lib.cell_of_heap hx 0
  have x1 := Lib.cell_of_heap hx 1
  simp only [List.getElem?_toArray, List.getElem?_cons_zero, List.getElem?_cons_succ] at c0 c2 c5 x0 x1
  have hfb := (h1.lt fb _ h1.fin).2
  have hwl : w.heap.size < W1.heap.size := by omega
  have H0 := Lib.hid h
  have H1 := Lib.hid h1
  have HX := Lib.hid hx
  have HB1 := Lib.hid hB1
  have hwW : Below w0.heap.size w0 W1 := hb.trans (hB1.mono hw0)
  have HW := Lib.hid hwW
  obtain ⟨T, v, Fl, Fn, Fo, rfl, _, mN, _, _, cN, _, _, kN, _⟩ := hM
  have HN := Lib.hid (fun w' (hw' : Below w0.heap.size w0 w') => kN w' n s t hw' hn hs ht)
  have HAD := Lib.hid (add_any (w := W1.drew) hkc hsc)
  generalize hcv : addC k.cost src.cost = cv at *
  generalize hxv : M.nx n s t = xv at *
  have HCV := Lib.hid hcv
  have HXV := Lib.hid hxv
  clear hlk1 hlk2 hm1 hm2 b1 h1 hx hB1 h kN hwW hkey hk hsrc hcv hxv
  have fm := fld_mk
  have fs := fld_st
  have fr := fld_sr
  go_upto_region 1 with fail
  go_cut [6] (fun s6 wx => s6 = .int .i64 (cv : Int) ∧ wx = W1.drew)
  case first =>
    go_region_held3 (fun w' => w' = W1.drew ∧ (Instr.lookup 82 (.map (some mm)) (.agg #[.int .i64 (n : Int), .int .i64 (s : Int)]) false).run Try.prog w' = .ok (.agg #[.int .i64 (k.num : Int), .int .i64 (k.st : Int), .int .i64 (k.cost : Int), .int .i64 k.frm, .int .i64 k.tree, .bool d]) w' ∧
        (Instr.lookup 83 (.map (some mf)) (.int .i64 (t : Int)) false).run Try.prog w' = .ok (.agg #[.int .i64 (src.num : Int), .int .i64 (src.st : Int), .int .i64 (src.cost : Int)]) w' ∧
        w'.cell? ⟨fb, 2, none⟩ = some (.map (some mm)) ∧ w'.cell? ⟨fb, 5, none⟩ = some (.map (some mf)) ∧ w'.cell? ⟨w.heap.size, 0, none⟩ = some (.int .i64 (n : Int)) ∧ w'.cell? ⟨w.heap.size, 1, none⟩ = some (.int .i64 (s : Int)))
      (first
        | exact ⟨rfl, hlk1', hlk2', c2, c5, x0, x1⟩
        | go_keep)
      (first
        | (go_at_call 48; refine HAD.out.mono ?_; rintro e w' ⟨rfl, rfl⟩))
    all_goals
      go_wp2_with fail
      go_meet
      exact ⟨rfl, rfl⟩
  case rest =>
    obtain ⟨rfl, rfl⟩ := hcut
    clear hlk1' hlk2' c2 c5 fm fs fr
    have HNC := Lib.hid (HN.out W1.drew.drew (Below.drew (Below.drew HW.out)))
    go_upto_region 2 with fail
    go_cut [7] (fun s7 wx => s7 = .int .i64 (xv : Int) ∧ Below W1.heap.size W1 wx)
    case first =>
      go_region_held3 (fun w' => w'.cell? ⟨fb, 0, none⟩ = some (.iface T v) ∧ w'.cell? ⟨w.heap.size, 0, none⟩ = some (.int .i64 (n : Int)) ∧ w'.cell? ⟨w.heap.size, 1, none⟩ = some (.int .i64 (s : Int)))
        (first
          | exact ⟨c0, x0, x1⟩
          | exact ⟨(b2.cell (p := ⟨fb, 0, none⟩) hfb).trans c0, (b2.cell (p := ⟨w.heap.size, 0, none⟩) hwl).trans x0, (b2.cell (p := ⟨w.heap.size, 1, none⟩) hwl).trans x1⟩
          | go_keep)
        (first
          | (refine HNC.out.mono ?_; rintro e W2 ⟨rfl, b2⟩))
      all_goals
        go_wp2_with fail
        go_meet
        exact ⟨rfl, (Below.drew (Below.drew (Below.refl _ W1))).trans b2⟩
    case rest =>
      obtain ⟨rfl, b3⟩ := hcut
      rename World => W3
      have hX3 := (b3.block w.heap.size hwl).trans HX.out
      have y0 := Lib.cell_of_heap hX3 0
      have y1 := Lib.cell_of_heap hX3 1
      simp only [List.getElem?_toArray, List.getElem?_cons_zero, List.getElem?_cons_succ] at y0 y1
      have hF3 := H1.out.below b3 (Nat.le_refl _)
      have HF3 := Lib.hid hF3
      have HB3 := Lib.hid (HB1.out.trans (b3.mono (by omega)))
      clear hX3 hF3 b3 mN cN
      go_wp2_with fail
      refine (put_any HF3.out hH hl ⟨n, xv, cv, s, t⟩ hnb hxb).mono ?_
      rintro e W5 ⟨rfl, own', f', hP, hF, hS, hU⟩
      have HU := Lib.hid hU
      have HP := Lib.hid hP
      have HF := Lib.hid hF
      have HSt := Lib.hid hS
      clear hP hF hS hU
      go_wp2
      exact bodyPost_end (results_none rfl _ _ _) rfl ⟨rfl, own', f', by rw [HCV.out, HXV.out]; exact HP.out, HF.out, (FStep.of_below HB3.out).trans HSt.out, FQu.trans (fun q r hq _ => HB3.out.block q (H0.out.lt q r hq).2) (FStep.of_below HB3.out) HU.out⟩
end Go.Proofs.Ytbipdnnalhdoaaa
