/- The finder's put. -/
import Derived.Test.YtbipdnnalhdoaaaHf
namespace Go.Proofs.Ytbipdnnalhdoaaa
open Go.RowKit Go.Maps Go.WideMaps
attribute [local go_sem ↓] Go.wp_at_zero Go.wp_at_succ

/-- what put does -/
def PutR (f : FS) (s : Stp) (f' : FS) : Prop :=
  (∃ k d, f.mar s.num s.st = some (k, d) ∧ (d = true ∨ k.cost ≤ s.cost) ∧ f' = f) ∨
  ((∀ k d, f.mar s.num s.st = some (k, d) → d = false ∧ s.cost < k.cost) ∧ ∃ q', q'.Perm (s :: f.q) ∧ Heap q' ∧ f' = { f with q := q', mar := upM f.mar s.num s.st (s, false) })
/-- the finder's blocks alone have changed, and new ones have come -/
structure FStep (w w' : World) (own own' : FOwn) : Prop where
  kb : Kb w w' (fun k => own k ≠ none)
  le : ∀ q r, own q = some r → own' q = some r
  inv : ∀ q r, own' q = some r → own q = some r ∨ w.heap.size ≤ q
theorem FStep.refl (w : World) (own : FOwn) : FStep w w own own := ⟨Kb.refl _ _, fun _ _ h => h, fun _ _ h => .inl h⟩
theorem FStep.trans {w w' w'' : World} {own own' own'' : FOwn} (h : FStep w w' own own') (h' : FStep w' w'' own' own'') : FStep w w'' own own'' := by
  refine ⟨⟨h'.kb.os.trans h.kb.os, h'.kb.tape.trans h.kb.tape, h'.kb.output.trans h.kb.output, Nat.le_trans h.kb.size h'.kb.size, fun k hk hn => ?_⟩, fun q r hq => h'.le q r (h.le q r hq), fun q r hq => ?_⟩
  · refine (h'.kb.block k (Nat.lt_of_lt_of_le hk h.kb.size) fun hs => ?_).trans (h.kb.block k hk hn)
    cases ho : own' k with
    | none => exact hs ho
    | some r =>
      rcases h.inv k r ho with h9 | h9
      · exact hn (by rw [h9]; simp)
      · omega
  · rcases h'.inv q r hq with h9 | h9
    · exact h.inv q r h9
    · exact .inr (Nat.le_trans h.kb.size h9)
theorem FStep.of_below {w w' : World} {own : FOwn} (h : Below w.heap.size w w') : FStep w w' own own := ⟨Kb.of_below h, fun _ _ h => h, fun _ _ h => .inl h⟩
/-- the rows of numbers stay as they are -/
def FQu (w w' : World) (own : FOwn) : Prop := ∀ q r, own q = some r → r.rowy = true → w'.heap[q]? = w.heap[q]?
theorem FQu.trans {w w' w'' : World} {own own' : FOwn} (h : FQu w w' own) (hs : FStep w w' own own') (h' : FQu w' w'' own') : FQu w w'' own := fun q r hq hr => (h' q r (hs.le q r hq) hr).trans (h q r hq hr)
theorem FQu.refl (w : World) (own : FOwn) : FQu w w own := fun _ _ _ _ => rfl
theorem FStep.below {w0 w w' : World} {own own' : FOwn} {B : Nat} (h : FStep w w' own own') (hb : Below B w0 w) (hB : B ≤ w.heap.size) (ho : ∀ q r, own q = some r → B ≤ q) : Below B w0 w' :=
  h.kb.below hb hB fun k hk => by
    cases hk' : own k with
    | none => exact absurd hk' hk
    | some r => exact ho k r hk'

/-- the finder's six cells -/
abbrev finC (mv : Value) (A : Option Addr) (nq c mm : Nat) (AM : Option Addr) (nm cM : Nat) (AT : Option Addr) (nt cT mf : Nat) : Array Value := #[mv, .slice A nq c, .map (some mm), .slice AM nm cM, .slice AT nt cT, .map (some mf)]
theorem FIs.pushed {W2 W3 W5 : World} {own : FOwn} {base fb mm mf : Nat} {mv : Value} {f : FS} (h : FIs W2 own base fb mm mf mv f) {A AM AT : Option Addr} {c cM cT n : Nat} {q' : List Stp} {mar' : Nat → Nat → Option (Stp × Bool)}
    (b1 : W2.heap[fb]? = some (.cells (finC mv A f.q.length c mm AM f.met.length cM AT f.trees.length cT mf) 85 (0, 0)))
    (hm : MapIs Try.prog 70 W3 mm n (mkF mar')) (hg : W2.grownBy W3 (some mm)) (hs : W2.heap.size ≤ W3.heap.size) (hq : QOut W3 W5 base fb 1 85 (finC mv A f.q.length c mm AM f.met.length cM AT f.trees.length cT mf) A f.q.length c q') :
    ∃ own', FIs W5 own' base fb mm mf mv { f with q := q', mar := mar' } ∧ FStep W2 W5 own own' ∧ FQu W2 W5 own := by
  obtain ⟨h1, h2, h3, h4, ⟨A0, c0, AM0, cM0, AT0, cT0, MV, e1, ⟨e2, e3⟩, ⟨e4, e5⟩, e6, ⟨e7, e8⟩⟩, _, ⟨n', h7⟩⟩ := h
  rw [b1] at e1
  simp only [finC, Option.some.injEq, Obj.cells.injEq, Array.mk.injEq, List.cons.injEq, Value.slice.injEq, and_true, true_and] at e1
  obtain ⟨⟨rfl, rfl⟩, ⟨rfl, rfl⟩, rfl, rfl⟩ := e1
  obtain ⟨A', c', q1, k1, a1⟩ := hq
  have hne : ∀ q r, own q = some r → q ≠ fb → r ≠ .que → r ≠ .mkm → W5.heap[q]? = W2.heap[q]? := by
    intro q r hq h9 h10 h11
    have hlt := (h1 q r hq).2
    refine (k1.block q (by omega) fun h12 => ?_).trans (hg.block q hlt fun e => ?_)
    · rcases h12 with h12 | h12
      · exact h9 h12
      · have := e3 q h12
        rw [hq] at this
        injection this with this
        exact h10 this
    · injection e with e
      subst e
      rw [h3] at hq
      injection hq with hq
      exact h11 hq.symm
  have hmm : mm ≠ fb := fun e => by rw [e, h2] at h3; injection h3 with h3; cases h3
  have hmk : W5.heap[mm]? = W3.heap[mm]? := k1.block mm hm.lt fun h12 => by
    rcases h12 with h12 | h12
    · exact hmm h12
    · have := e3 mm h12
      rw [h3] at this
      injection this with this
      cases this
  have hmf : mf ≠ fb := fun e => by rw [e, h2] at h4; injection h4 with h4; cases h4
  have hnew : ∀ q, (Value.slice A' q'.length c').ownBlock = some q → own q = none ∨ own q = some .que := by
    intro q hq
    rcases a1 q hq with h9 | h9
    · exact .inr (e3 q h9)
    · left
      cases ho : own q with
      | none => rfl
      | some r => have := (h1 q r ho).2; omega
  have hle : ∀ q r, own q = some r → own.put (.slice A' q'.length c') .que q = some r := fun q r hq => FOwn.put_le _ _ _ _ _ hq
  refine ⟨own.put (.slice A' q'.length c') .que, ⟨fun q r hq => ?_, hle _ _ h2, hle _ _ h3, hle _ _ h4, ⟨A', c', AM, cM, AT, cT, MV, ?_, ⟨q1.row, fun q hq => FOwn.put_is hq (hnew q hq)⟩, ⟨?_, fun q hq => hle _ _ (e5 q hq)⟩, fun i hi => ?_, ⟨?_, fun q hq => hle _ _ (e8 q hq)⟩⟩, ⟨n, hm.block hmk⟩, ⟨n', h7.block (hne mf _ h4 hmf (by simp) (by simp))⟩⟩, ⟨?_, hle, fun q r hq => ?_⟩, fun q r hq hr => hne q r hq (fun e => by rw [e, h2] at hq; injection hq with hq; subst hq; cases hr) (fun e => by subst e; cases hr) (fun e => by subst e; cases hr)⟩
  · rcases FOwn.put_inv hq with h9 | ⟨h9, _⟩
    · have := h1 q r h9
      have := k1.size
      omega
    · exact q1.row.lt q h9
  · have := q1.var
    simpa [finC] using this
  · exact fown_block e4 fun q hq => hne q _ (e5 q hq) (fun e => by have := e5 q hq; rw [e, h2] at this; injection this with this; cases this) (by simp) (by simp)
  · obtain ⟨A9, c9, e10, e11, e12⟩ := e6 i hi
    exact ⟨A9, c9, e10, fown_block e11 fun q hq => hne q _ (e12 q hq) (fun e => by have := e12 q hq; rw [e, h2] at this; injection this with this; cases this) (by simp) (by simp), fun q hq => hle _ _ (e12 q hq)⟩
  · exact fown_block e7 fun q hq => hne q _ (e8 q hq) (fun e => by have := e8 q hq; rw [e, h2] at this; injection this with this; cases this) (by simp) (by simp)
  · refine ⟨k1.os.trans hg.os, k1.tape.trans hg.tape, k1.output.trans hg.output, by have := k1.size; omega, fun k hk hn => ?_⟩
    refine (k1.block k (by omega) fun h12 => hn fun h13 => ?_).trans (hg.block k hk fun e => ?_)
    · rcases h12 with h12 | h12
      · rw [h12, h2] at h13; cases h13
      · rw [e3 k h12] at h13; cases h13
    · injection e with e
      subst e
      exact hn (by rw [h3]; simp)
  · rcases FOwn.put_inv hq with h9 | ⟨h9, _⟩
    · exact .inl h9
    · rcases a1 q h9 with h10 | h10
      · left
        rw [e3 q h10]
        rcases FOwn.put_inv hq with h11 | ⟨_, h11⟩
        · rw [e3 q h10] at h11; exact h11
        · rw [h11]
      · exact .inr (by omega)

def stAggUnused (s : Stp) : Array Value := #[.int .i64 (s.num : Int), .int .i64 (s.st : Int), .int .i64 (s.cost : Int), .int .i64 s.frm, .int .i64 s.tree]

set_option maxHeartbeats 2000000 in
set_option maxRecDepth 100000 in
theorem put_any {w : World} {own : FOwn} {base fb mm mf : Nat} {mv : Value} {f : FS} (h : FIs w own base fb mm mf mv f) (hH : Heap f.q) (hl : f.q.length < 1000000000000) (s : Stp) (hn : s.num ≤ 1000000000000) (hs : s.st ≤ 1000000000000) :
    Calls Try.prog 44 #[.pointer (some ⟨fb, 0, none⟩), .agg #[.int .i64 (s.num : Int), .int .i64 (s.st : Int), .int .i64 (s.cost : Int), .int .i64 s.frm, .int .i64 s.tree]] w fun e w' =>
      e = .returned (.tuple #[]) ∧ ∃ own' f', PutR f s f' ∧ FIs w' own' base fb mm mf mv f' ∧ FStep w w' own own' ∧ FQu w w' own := by
  obtain ⟨l, hk⟩ := keyPl hn hs
  have hB1 := (Below.refl _ w).alloc (Nat.le_refl _) (.cells #[.int .i64 (s.num : Int), .int .i64 (s.st : Int), .int .i64 (s.cost : Int), .int .i64 s.frm, .int .i64 s.tree] 72)
  have hx := heap_alloc_new w (.cells #[.int .i64 (s.num : Int), .int .i64 (s.st : Int), .int .i64 (s.cost : Int), .int .i64 s.frm, .int .i64 s.tree] 72)
  have h1 := h.below hB1 (Nat.le_refl _)
  have hsz : (w.alloc (.cells #[.int .i64 (s.num : Int), .int .i64 (s.st : Int), .int .i64 (s.cost : Int), .int .i64 s.frm, .int .i64 s.tree] 72)).heap.size = w.heap.size + 1 := World.size_alloc _ _
  go_enter Try.func44, Try.ntmps44
  go_wp2
  generalize w.alloc (.cells #[.int .i64 (s.num : Int), .int .i64 (s.st : Int), .int .i64 (s.cost : Int), .int .i64 s.frm, .int .i64 s.tree] 72) = W1 at *
  obtain ⟨A, c, AM, cM, AT, cT, MV, b1, _⟩ := h1.blk
  obtain ⟨n, hm⟩ := h1.mks
  have c2 := Lib.cell_of_heap b1 2
  have x0 := Lib.cell_of_heap hx 0
  have x1 := Lib.cell_of_heap hx 1
  simp only [List.getElem?_toArray, List.getElem?_cons_zero, List.getElem?_cons_succ] at c2 x0 x1
  have H1 := Lib.hid h1
  have hlook := fun (w' : World) (hm' : MapIs Try.prog 70 w' mm n (mkF f.mar)) => hm'.look placeK Try.underlying82 (zMk w') hk true
  rw [mkF_at] at hlook
  obtain ⟨z0, z1, z2, z3, z4, d, ok, hl2, hok⟩ : ∃ (z0 z1 z2 z3 z4 : Int) (d ok : Bool), (∀ w', MapIs Try.prog 70 w' mm n (mkF f.mar) → (Instr.lookup 82 (.map (some mm)) (.agg #[.int .i64 (s.num : Int), .int .i64 (s.st : Int)]) true).run Try.prog w' = .ok (.tuple #[.agg #[.int .i64 z0, .int .i64 z1, .int .i64 z2, .int .i64 z3, .int .i64 z4, .bool d], .bool ok]) w') ∧
      ((ok = true ∧ ∃ k, f.mar s.num s.st = some (k, d) ∧ z2 = (k.cost : Int)) ∨ (ok = false ∧ f.mar s.num s.st = none)) := by
    cases hc : f.mar s.num s.st with
    | none =>
      rw [hc] at hlook
      exact ⟨0, 0, 0, 0, 0, false, false, fun w' hm' => hlook w' hm', .inr ⟨rfl, rfl⟩⟩
    | some x =>
      obtain ⟨k, d⟩ := x
      rw [hc] at hlook
      exact ⟨k.num, k.st, k.cost, k.frm, k.tree, d, true, fun w' hm' => hlook w' hm', .inl ⟨rfl, k, rfl, rfl⟩⟩
  have HL := Lib.hid hl2
  have HOK := Lib.hid hok
  have HM := Lib.hid hm
  have hfb := (h1.lt fb _ h1.fin).2
  have HB1 := Lib.hid hB1
  have HX := Lib.hid hx
  have H0 := Lib.hid h
  have x2 := Lib.cell_of_heap hx 2
  simp only [List.getElem?_toArray, List.getElem?_cons_zero, List.getElem?_cons_succ] at x2
  clear hlook hl2 hok hm h1 b1 hx hB1 h
  go_upto_region 1 with fail
  go_cut [4, 5] (fun s4 s5 wx => s4 = .pointer (some ⟨w.heap.size + 1, 0, none⟩) ∧ s5 = .bool ok ∧ wx.heap[w.heap.size + 1]? = some (.cells #[.int .i64 z0, .int .i64 z1, .int .i64 z2, .int .i64 z3, .int .i64 z4, .bool d] 96 (0, 0)) ∧ Below W1.heap.size W1 wx)
  case first =>
    go_region_held3 (fun w' => MapIs Try.prog 70 w' mm n (mkF f.mar) ∧ (Instr.lookup 82 (.map (some mm)) (.agg #[.int .i64 (s.num : Int), .int .i64 (s.st : Int)]) true).run Try.prog w' = .ok (.tuple #[.agg #[.int .i64 z0, .int .i64 z1, .int .i64 z2, .int .i64 z3, .int .i64 z4, .bool d], .bool ok]) w' ∧
        w'.cell? ⟨fb, 2, none⟩ = some (.map (some mm)) ∧ w'.cell? ⟨w.heap.size, 0, none⟩ = some (.int .i64 (s.num : Int)) ∧ w'.cell? ⟨w.heap.size, 1, none⟩ = some (.int .i64 (s.st : Int)))
      (first
        | exact ⟨HM.out, HL.out _ HM.out, c2, x0, x1⟩
        | exact ⟨HM.out.drew, HL.out _ HM.out.drew, c2, x0, x1⟩
        | exact ⟨(HM.out.alloc _).drew, HL.out _ (HM.out.alloc _).drew, (World.cell?_alloc_lt W1 _ ⟨fb, 2, none⟩ hfb).trans c2, (World.cell?_alloc_lt W1 _ ⟨w.heap.size, 0, none⟩ (by simp only []; omega)).trans x0, (World.cell?_alloc_lt W1 _ ⟨w.heap.size, 1, none⟩ (by simp only []; omega)).trans x1⟩
        | go_keep)
      (fail)
    all_goals
      go_wp2_with fail
      go_meet
      refine ⟨rfl, rfl, ?_, Below.drew ((Below.refl _ W1).alloc (Nat.le_refl _) _)⟩
      have := heap_alloc_new W1 (.cells #[.int .i64 z0, .int .i64 z1, .int .i64 z2, .int .i64 z3, .int .i64 z4, .bool d] 96)
      rw [hsz] at this
      exact this
  case rest =>
    obtain ⟨rfl, rfl, hk6, hb2⟩ := hcut
    rename World => W2
    have y1 := Lib.cell_of_heap hk6 2
    have y2 := Lib.cell_of_heap hk6 5
    simp only [List.getElem?_toArray, List.getElem?_cons_zero, List.getElem?_cons_succ] at y1 y2
    have hw1 : w.heap.size < W1.heap.size := by omega
    have x2' : W2.cell? ⟨w.heap.size, 2, none⟩ = some (.int .i64 (s.cost : Int)) := (hb2.cell (p := ⟨w.heap.size, 2, none⟩) hw1).trans x2
    have h2 := H1.out.below hb2 (Nat.le_refl _)
    have H2 := Lib.hid h2
    have HB2 := Lib.hid (HB1.out.trans (hb2.mono (by omega)))
    have HX2 := Lib.hid ((hb2.block w.heap.size hw1).trans HX.out)
    clear hk6 hb2 h2
    by_cases hbl : ok = true ∧ (d = true ∨ z2 ≤ (s.cost : Int))
    · obtain ⟨rfl, hbl⟩ := hbl
      have HR := Lib.hid (show PutR f s f from by
        rcases HOK.out with ⟨_, k, hk1, hk2⟩ | ⟨h9, _⟩
        · exact .inl ⟨k, d, hk1, hbl.imp id (fun h => by omega), rfl⟩
        · cases h9)
      clear HOK HL
      cases d with
      | true =>
        go_wp2
        exact bodyPost_ret (results_none rfl _ _ _) rfl ⟨rfl, own, f, HR.out, H2.out, FStep.of_below HB2.out, fun q r hq _ => HB2.out.block q (H0.out.lt q r hq).2⟩
      | false =>
        have hle : z2 ≤ (s.cost : Int) := by
          rcases hbl with h | h
          · cases h
          · exact h
        clear hbl
        go_wp2
        exact bodyPost_ret (results_none rfl _ _ _) rfl ⟨rfl, own, f, HR.out, H2.out, FStep.of_below HB2.out, fun q r hq _ => HB2.out.block q (H0.out.lt q r hq).2⟩
    · have HR0 := Lib.hid (show ∀ k e, f.mar s.num s.st = some (k, e) → e = false ∧ s.cost < k.cost from fun k e hke => by
        rcases HOK.out with ⟨h8, k', hk1, hk2⟩ | ⟨_, h9⟩
        · rw [hk1] at hke
          injection hke with hke
          injection hke with e1 e2
          subst e1 e2 h8
          cases d with
          | true => exact absurd ⟨rfl, .inl rfl⟩ hbl
          | false =>
            refine ⟨rfl, ?_⟩
            rcases Nat.lt_or_ge s.cost k'.cost with h | h
            · exact h
            · exact absurd ⟨rfl, .inr (by omega)⟩ hbl
        · rw [h9] at hke; cases hke)
      have hcond : ok = false ∨ (ok = true ∧ d = false ∧ ¬ z2 ≤ (s.cost : Int)) := by
        cases ok with
        | false => exact .inl rfl
        | true =>
          cases d with
          | true => exact absurd ⟨rfl, .inl rfl⟩ hbl
          | false => exact .inr ⟨rfl, rfl, fun h => hbl ⟨rfl, .inr h⟩⟩
      obtain ⟨A2, c2', AM2, cM2, AT2, cT2, MV2, d1, ⟨d2, d3⟩, _⟩ := H2.out.blk
      obtain ⟨n2, hm2⟩ := H2.out.mks
      obtain ⟨W3, hset, hm3, hg3⟩ := MapIs.set (w := W2.drew) hm2 placeK Try.underlying82 hk (val := .agg #[.int .i64 (s.num : Int), .int .i64 (s.st : Int), .int .i64 (s.cost : Int), .int .i64 s.frm, .int .i64 s.tree, .bool false]) (f' := mkF (upM f.mar s.num s.st (s, false))) (mkF_up f.mar s.num s.st (s, false)) (mkF_ne f.mar s.num s.st (s, false))
      have hset' : (Instr.mapUpdate 82 (.map (some mm)) (.agg #[.int .i64 (s.num : Int), .int .i64 (s.st : Int)]) (.agg #[.int .i64 (s.num : Int), .int .i64 (s.st : Int), .int .i64 (s.cost : Int), .int .i64 s.frm, .int .i64 s.tree, .bool false])).run Try.prog W2.drew = .ok () W3 := hset
      have k2 := Lib.cell_of_heap d1 2
      simp only [List.getElem?_toArray, List.getElem?_cons_zero, List.getElem?_cons_succ] at k2
      have HD1 := Lib.hid d1
      have HD := Lib.hid (And.intro d2 d3)
      have HM3 := Lib.hid hm3
      have HG3 := Lib.hid hg3
      have hmw : mm < w.heap.size := (H0.out.lt mm _ H0.out.mkm).2
      have hX3 := (hg3.block w.heap.size (by have := HB2.out.size; have := HX2.out; exact (Array.getElem?_eq_some_iff.1 HX2.out).1) (fun e => by injection e with e; omega)).trans HX2.out
      have hs3 : W2.heap.size ≤ W3.heap.size := hg3.size
      have hfm : fb ≠ mm := fun e => by have := H2.out.fin; rw [e, H2.out.mkm] at this; injection this with this; cases this
      have hd3 : W3.heap[fb]? = _ := (hg3.block fb (H2.out.lt fb _ H2.out.fin).2 (fun e => by injection e with e; exact hfm e)).trans d1
      have hQ3 : QIs W3.drew base fb 1 85 (finC mv A2 f.q.length c2' mm AM2 f.met.length cM2 AT2 f.trees.length cT2 mf) A2 c2' f.q :=
        ⟨hd3, rfl, fown_block d2 fun q hq => hg3.block q (d2.lt q hq).2 (fun e => by have := d3 q hq; injection e with e; rw [e, H2.out.mkm] at this; injection this with this; cases this), fun e => by have := d3 fb e; rw [H2.out.fin] at this; injection this with this; cases this⟩
      have HQ3 := Lib.hid hQ3
      have HX3 := Lib.hid hX3
      have a0 := Lib.cell_of_heap HX2.out 0
      have a1 := Lib.cell_of_heap HX2.out 1
      have a2 := Lib.cell_of_heap HX2.out 2
      have a3 := Lib.cell_of_heap HX2.out 3
      have a4 := Lib.cell_of_heap HX2.out 4
      have e0 := Lib.cell_of_heap hX3 0
      have e1 := Lib.cell_of_heap hX3 1
      have e2 := Lib.cell_of_heap hX3 2
      have e3 := Lib.cell_of_heap hX3 3
      have e4 := Lib.cell_of_heap hX3 4
      simp only [List.getElem?_toArray, List.getElem?_cons_zero, List.getElem?_cons_succ] at a0 a1 a2 a3 a4 e0 e1 e2 e3 e4
      have hbs : base ≤ W3.drew.heap.size := by have := (H2.out.lt fb _ H2.out.fin); show base ≤ W3.heap.size; omega
      have HS3 := Lib.hid hs3
      clear hset hm3 hg3 hX3 hs3 hd3 hQ3 d1 d2 d3 hbl x2'
      rcases hcond with rfl | ⟨rfl, rfl, hlt⟩
      all_goals
        clear HOK HL
        go_upto_region 3 with fail
        go_region
        go_upto_region 4 with fail
        go_region_with (go_at_call 54; refine (hpush_any HQ3.out hbs hl s hH).mono ?_; rintro e W5 ⟨rfl, q', hp, hh, hq5⟩)
        all_goals
          have hpush := FIs.pushed H2.out HD1.out (W3 := W3.drew) (n := n2 + 1) HM3.out ⟨HG3.out.os, HG3.out.tape, HG3.out.output, HG3.out.size, HG3.out.block⟩ HS3.out hq5
          obtain ⟨own', hF, hS, hU⟩ := hpush
          have HU := Lib.hid hU
          have HF := Lib.hid hF
          have HSt := Lib.hid hS
          have HP := Lib.hid (And.intro hp hh)
          clear hF hS hU hq5 hp hh
          go_wp2
          refine bodyPost_end (results_none rfl _ _ _) rfl ⟨rfl, own', { f with q := q', mar := upM f.mar s.num s.st (s, false) }, .inr ⟨HR0.out, q', HP.out.1, HP.out.2, rfl⟩, HF.out, (FStep.of_below HB2.out).trans HSt.out, FQu.trans (fun q r hq _ => HB2.out.block q (H0.out.lt q r hq).2) (FStep.of_below HB2.out) HU.out⟩
end Go.Proofs.Ytbipdnnalhdoaaa
