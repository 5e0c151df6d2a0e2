/- The finder's put. The finder's machine; add, goOn. Automata of trees in memory; side; the machine of one automaton. -/
import Derived.Laws.ResultCell
import Derived.Test.YtnkelhmjkmeilaaGreatDoorT18
import Derived.Test.YtnkelhmjkmeilaaGreatDoorT17
section
namespace Go.Proofs.YtnkelhmjkmeilaaGreatDoor.H
open Go.RowKit Go.Maps Go.WideMaps
attribute [local go_sem ↓] Go.wp_at_zero Go.wp_at_succ
def PutR (f : FS) (s : Stp) (f' : FS) : Prop :=
  (∃ k d, f.mar s.num s.st = some (k, d) ∧ (d = true ∨ k.cost ≤ s.cost) ∧ f' = f) ∨
  ((∀ k d, f.mar s.num s.st = some (k, d) → d = false ∧ s.cost < k.cost) ∧ ∃ q', q'.Perm (s :: f.q) ∧ Heap q' ∧ f' = { f with q := q', mar := upM f.mar s.num s.st (s, false) })
structure FStep (w w' : World) (own own' : FOwn) : Prop where
  kb : Kb w w' (fun k => own k ≠ none)
  le : ∀ q r, own q = some r → own' q = some r
  inv : ∀ q r, own' q = some r → own q = some r ∨ w.heap.size ≤ q
theorem FStep.refl (w : World) (own : FOwn) : FStep w w own own := ⟨Kb.refl _ _, fun _ _ h => h, fun _ _ h => .inl h⟩
theorem FStep.trans {w w' w'' : World} {own own' own'' : FOwn} (h : FStep w w' own own') (h' : FStep w' w'' own' own'') : FStep w w'' own own'' := by
  refine ⟨⟨h'.kb.os.trans h.kb.os, h'.kb.tape.trans h.kb.tape, h'.kb.output.trans h.kb.output, Nat.le_trans h.kb.size h'.kb.size, fun k hk hn => ?_⟩, fun q r hq => h'.le q r (h.le q r hq), fun q r hq => ?_⟩
  · refine (h'.kb.block k (Nat.lt_of_lt_of_le hk h.kb.size) fun hs => ?_).trans (h.kb.block k hk hn)
    cases ho : own' k with
    | none => exact hs ho
    | some r =>
      rcases h.inv k r ho with h9 | h9
      · exact hn (by rw [h9]; simp)
      · omega
  · rcases h'.inv q r hq with h9 | h9
    · exact h.inv q r h9
    · exact .inr (Nat.le_trans h.kb.size h9)
theorem FStep.of_below {w w' : World} {own : FOwn} (h : Below w.heap.size w w') : FStep w w' own own := ⟨Kb.of_below h, fun _ _ h => h, fun _ _ h => .inl h⟩
def FQu (w w' : World) (own : FOwn) : Prop := ∀ q r, own q = some r → r.rowy = true → w'.heap[q]? = w.heap[q]?
theorem FQu.trans {w w' w'' : World} {own own' : FOwn} (h : FQu w w' own) (hs : FStep w w' own own') (h' : FQu w' w'' own') : FQu w w'' own := fun q r hq hr => (h' q r (hs.le q r hq) hr).trans (h q r hq hr)
theorem FQu.refl (w : World) (own : FOwn) : FQu w w own := fun _ _ _ _ => rfl
theorem FStep.below {w0 w w' : World} {own own' : FOwn} {B : Nat} (h : FStep w w' own own') (hb : Below B w0 w) (hB : B ≤ w.heap.size) (ho : ∀ q r, own q = some r → B ≤ q) : Below B w0 w' :=
  h.kb.below hb hB fun k hk => by
    cases hk' : own k with
    | none => exact absurd hk' hk
    | some r => exact ho k r hk'
abbrev finC (mv : Value) (A : Option Addr) (nq c mm : Nat) (AM : Option Addr) (nm cM : Nat) (AT : Option Addr) (nt cT mf : Nat) : Array Value := #[mv, .slice A nq c, .map (some mm), .slice AM nm cM, .slice AT nt cT, .map (some mf)]
theorem FIs.pushed {W2 W3 W5 : World} {own : FOwn} {base fb mm mf : Nat} {mv : Value} {f : FS} (h : FIs W2 own base fb mm mf mv f) {A AM AT : Option Addr} {c cM cT n : Nat} {q' : List Stp} {mar' : Nat → Nat → Option (Stp × Bool)}
    (b1 : W2.heap[fb]? = some (.cells (finC mv A f.q.length c mm AM f.met.length cM AT f.trees.length cT mf) 244 (0, 0)))
    (hm : MapIs Tryz.prog 198 W3 mm n (mkF mar')) (hg : W2.grownBy W3 (some mm)) (hs : W2.heap.size ≤ W3.heap.size) (hq : QOut W3 W5 base fb 1 244 (finC mv A f.q.length c mm AM f.met.length cM AT f.trees.length cT mf) A f.q.length c q') :
    ∃ own', FIs W5 own' base fb mm mf mv { f with q := q', mar := mar' } ∧ FStep W2 W5 own own' ∧ FQu W2 W5 own := by
  obtain ⟨h1, h2, h3, h4, ⟨A0, c0, AM0, cM0, AT0, cT0, MV, e1, ⟨e2, e3⟩, ⟨e4, e5⟩, e6, ⟨e7, e8⟩⟩, _, ⟨n', h7⟩⟩ := h
  rw [b1] at e1
  simp only [finC, Option.some.injEq, Obj.cells.injEq, Array.mk.injEq, List.cons.injEq, Value.slice.injEq, and_true, true_and] at e1
  obtain ⟨⟨rfl, rfl⟩, ⟨rfl, rfl⟩, rfl, rfl⟩ := e1
  obtain ⟨A', c', q1, k1, a1⟩ := hq
  have hne : ∀ q r, own q = some r → q ≠ fb → r ≠ .que → r ≠ .mkm → W5.heap[q]? = W2.heap[q]? := by
    intro q r hq h9 h10 h11
    have hlt := (h1 q r hq).2
    refine (k1.block q (by omega) fun h12 => ?_).trans (hg.block q hlt fun e => ?_)
    · rcases h12 with h12 | h12
      · exact h9 h12
      · have := e3 q h12
        rw [hq] at this
        injection this with this
        exact h10 this
    · injection e with e
      subst e
      rw [h3] at hq
      injection hq with hq
      exact h11 hq.symm
  have hmm : mm ≠ fb := fun e => by rw [e, h2] at h3; injection h3 with h3; cases h3
  have hmk : W5.heap[mm]? = W3.heap[mm]? := k1.block mm hm.lt fun h12 => by
    rcases h12 with h12 | h12
    · exact hmm h12
    · have := e3 mm h12
      rw [h3] at this
      injection this with this
      cases this
  have hmf : mf ≠ fb := fun e => by rw [e, h2] at h4; injection h4 with h4; cases h4
  have hnew : ∀ q, (Value.slice A' q'.length c').ownBlock = some q → own q = none ∨ own q = some .que := by
    intro q hq
    rcases a1 q hq with h9 | h9
    · exact .inr (e3 q h9)
    · left
      cases ho : own q with
      | none => rfl
      | some r => have := (h1 q r ho).2; omega
  have hle : ∀ q r, own q = some r → own.put (.slice A' q'.length c') .que q = some r := fun q r hq => FOwn.put_le _ _ _ _ _ hq
  refine ⟨own.put (.slice A' q'.length c') .que, ⟨fun q r hq => ?_, hle _ _ h2, hle _ _ h3, hle _ _ h4, ⟨A', c', AM, cM, AT, cT, MV, ?_, ⟨q1.row, fun q hq => FOwn.put_is hq (hnew q hq)⟩, ⟨?_, fun q hq => hle _ _ (e5 q hq)⟩, fun i hi => ?_, ⟨?_, fun q hq => hle _ _ (e8 q hq)⟩⟩, ⟨n, hm.block hmk⟩, ⟨n', h7.block (hne mf _ h4 hmf (by simp) (by simp))⟩⟩, ⟨?_, hle, fun q r hq => ?_⟩, fun q r hq hr => hne q r hq (fun e => by rw [e, h2] at hq; injection hq with hq; subst hq; cases hr) (fun e => by subst e; cases hr) (fun e => by subst e; cases hr)⟩
  · rcases FOwn.put_inv hq with h9 | ⟨h9, _⟩
    · have := h1 q r h9
      have := k1.size
      omega
    · exact q1.row.lt q h9
  · have := q1.var
    simpa [finC] using this
  · exact fown_block e4 fun q hq => hne q _ (e5 q hq) (fun e => by have := e5 q hq; rw [e, h2] at this; injection this with this; cases this) (by simp) (by simp)
  · obtain ⟨A9, c9, e10, e11, e12⟩ := e6 i hi
    exact ⟨A9, c9, e10, fown_block e11 fun q hq => hne q _ (e12 q hq) (fun e => by have := e12 q hq; rw [e, h2] at this; injection this with this; cases this) (by simp) (by simp), fun q hq => hle _ _ (e12 q hq)⟩
  · exact fown_block e7 fun q hq => hne q _ (e8 q hq) (fun e => by have := e8 q hq; rw [e, h2] at this; injection this with this; cases this) (by simp) (by simp)
  · refine ⟨k1.os.trans hg.os, k1.tape.trans hg.tape, k1.output.trans hg.output, by have := k1.size; omega, fun k hk hn => ?_⟩
    refine (k1.block k (by omega) fun h12 => hn fun h13 => ?_).trans (hg.block k hk fun e => ?_)
    · rcases h12 with h12 | h12
      · rw [h12, h2] at h13; cases h13
      · rw [e3 k h12] at h13; cases h13
    · injection e with e
      subst e
      exact hn (by rw [h3]; simp)
  · rcases FOwn.put_inv hq with h9 | ⟨h9, _⟩
    · exact .inl h9
    · rcases a1 q h9 with h10 | h10
      · left
        rw [e3 q h10]
        rcases FOwn.put_inv hq with h11 | ⟨_, h11⟩
        · rw [e3 q h10] at h11; exact h11
        · rw [h11]
      · exact .inr (by omega)
set_option maxHeartbeats 2000000 in
set_option maxRecDepth 100000 in
theorem put_any {w : World} {own : FOwn} {base fb mm mf : Nat} {mv : Value} {f : FS} (h : FIs w own base fb mm mf mv f) (hH : Heap f.q) (hl : f.q.length < 1000000000000) (s : Stp) (hn : s.num ≤ 1000000000000) (hs : s.st ≤ 1000000000000) :
    Calls Tryz.prog 151 #[.pointer (some ⟨fb, 0, none⟩), .agg #[.int .i64 (s.num : Int), .int .i64 (s.st : Int), .int .i64 (s.cost : Int), .int .i64 s.frm, .int .i64 s.tree]] w fun e w' =>
      e = .returned (.tuple #[]) ∧ ∃ own' f', PutR f s f' ∧ FIs w' own' base fb mm mf mv f' ∧ FStep w w' own own' ∧ FQu w w' own := by
  obtain ⟨l, hk⟩ := keyPl hn hs
  have hB1 := (Below.refl _ w).alloc (Nat.le_refl _) (.cells #[.int .i64 (s.num : Int), .int .i64 (s.st : Int), .int .i64 (s.cost : Int), .int .i64 s.frm, .int .i64 s.tree] 200)
  have hx := heap_alloc_new w (.cells #[.int .i64 (s.num : Int), .int .i64 (s.st : Int), .int .i64 (s.cost : Int), .int .i64 s.frm, .int .i64 s.tree] 200)
  have h1 := h.below hB1 (Nat.le_refl _)
  have hsz : (w.alloc (.cells #[.int .i64 (s.num : Int), .int .i64 (s.st : Int), .int .i64 (s.cost : Int), .int .i64 s.frm, .int .i64 s.tree] 200)).heap.size = w.heap.size + 1 := World.size_alloc _ _
  go_enter Tryz.func151, Tryz.ntmps151
  go_wp2
  generalize w.alloc (.cells #[.int .i64 (s.num : Int), .int .i64 (s.st : Int), .int .i64 (s.cost : Int), .int .i64 s.frm, .int .i64 s.tree] 200) = W1 at *
  obtain ⟨A, c, AM, cM, AT, cT, MV, b1, _⟩ := h1.blk
  obtain ⟨n, hm⟩ := h1.mks
  have c2 := Lib.cell_of_heap b1 2
  have x0 := Lib.cell_of_heap hx 0
  have x1 := Lib.cell_of_heap hx 1
  simp only [List.getElem?_toArray, List.getElem?_cons_zero, List.getElem?_cons_succ] at c2 x0 x1
  have H1 := Lib.hid h1
  have hlook := fun (w' : World) (hm' : MapIs Tryz.prog 198 w' mm n (mkF f.mar)) => hm'.look placeK Tryz.underlying239 (zMk w') hk true
  rw [mkF_at] at hlook
  obtain ⟨z0, z1, z2, z3, z4, d, ok, hl2, hok⟩ : ∃ (z0 z1 z2 z3 z4 : Int) (d ok : Bool), (∀ w', MapIs Tryz.prog 198 w' mm n (mkF f.mar) → (Instr.lookup 239 (.map (some mm)) (.agg #[.int .i64 (s.num : Int), .int .i64 (s.st : Int)]) true).run Tryz.prog w' = .ok (.tuple #[.agg #[.int .i64 z0, .int .i64 z1, .int .i64 z2, .int .i64 z3, .int .i64 z4, .bool d], .bool ok]) w') ∧
      ((ok = true ∧ ∃ k, f.mar s.num s.st = some (k, d) ∧ z2 = (k.cost : Int)) ∨ (ok = false ∧ f.mar s.num s.st = none)) := by
    cases hc : f.mar s.num s.st with
    | none =>
      rw [hc] at hlook
      exact ⟨0, 0, 0, 0, 0, false, false, fun w' hm' => hlook w' hm', .inr ⟨rfl, rfl⟩⟩
    | some x =>
      obtain ⟨k, d⟩ := x
      rw [hc] at hlook
      exact ⟨k.num, k.st, k.cost, k.frm, k.tree, d, true, fun w' hm' => hlook w' hm', .inl ⟨rfl, k, rfl, rfl⟩⟩
  have HL := Lib.hid hl2
  have HOK := Lib.hid hok
  have HM := Lib.hid hm
  have hfb := (h1.lt fb _ h1.fin).2
  have HB1 := Lib.hid hB1
  have HX := Lib.hid hx
  have H0 := Lib.hid h
  have x2 := Lib.cell_of_heap hx 2
  simp only [List.getElem?_toArray, List.getElem?_cons_zero, List.getElem?_cons_succ] at x2
  clear hlook hl2 hok hm h1 b1 hx hB1 h
  go_upto_region 1 with fail
  go_cut [4, 5] (fun s4 s5 wx => s4 = .pointer (some ⟨w.heap.size + 1, 0, none⟩) ∧ s5 = .bool ok ∧ wx.heap[w.heap.size + 1]? = some (.cells #[.int .i64 z0, .int .i64 z1, .int .i64 z2, .int .i64 z3, .int .i64 z4, .bool d] 249 (0, 0)) ∧ Below W1.heap.size W1 wx)
  case first =>
    go_region_held3 (fun w' => MapIs Tryz.prog 198 w' mm n (mkF f.mar) ∧ (Instr.lookup 239 (.map (some mm)) (.agg #[.int .i64 (s.num : Int), .int .i64 (s.st : Int)]) true).run Tryz.prog w' = .ok (.tuple #[.agg #[.int .i64 z0, .int .i64 z1, .int .i64 z2, .int .i64 z3, .int .i64 z4, .bool d], .bool ok]) w' ∧
        w'.cell? ⟨fb, 2, none⟩ = some (.map (some mm)) ∧ w'.cell? ⟨w.heap.size, 0, none⟩ = some (.int .i64 (s.num : Int)) ∧ w'.cell? ⟨w.heap.size, 1, none⟩ = some (.int .i64 (s.st : Int)))
      (first
        | exact ⟨HM.out, HL.out _ HM.out, c2, x0, x1⟩
        | exact ⟨HM.out.drew, HL.out _ HM.out.drew, c2, x0, x1⟩
        | exact ⟨(HM.out.alloc _).drew, HL.out _ (HM.out.alloc _).drew, (World.cell?_alloc_lt W1 _ ⟨fb, 2, none⟩ hfb).trans c2, (World.cell?_alloc_lt W1 _ ⟨w.heap.size, 0, none⟩ (by simp only []; omega)).trans x0, (World.cell?_alloc_lt W1 _ ⟨w.heap.size, 1, none⟩ (by simp only []; omega)).trans x1⟩
        | go_keep)
      (fail)
    all_goals
      go_wp2_with fail
      go_meet
      refine ⟨rfl, rfl, ?_, Below.drew ((Below.refl _ W1).alloc (Nat.le_refl _) _)⟩
      have := heap_alloc_new W1 (.cells #[.int .i64 z0, .int .i64 z1, .int .i64 z2, .int .i64 z3, .int .i64 z4, .bool d] 249)
      rw [hsz] at this
      exact this
  case rest =>
    obtain ⟨rfl, rfl, hk6, hb2⟩ := hcut
    rename World => W2
    have y1 := Lib.cell_of_heap hk6 2
    have y2 := Lib.cell_of_heap hk6 5
    simp only [List.getElem?_toArray, List.getElem?_cons_zero, List.getElem?_cons_succ] at y1 y2
    have hw1 : w.heap.size < W1.heap.size := by omega
    have x2' : W2.cell? ⟨w.heap.size, 2, none⟩ = some (.int .i64 (s.cost : Int)) := (hb2.cell (p := ⟨w.heap.size, 2, none⟩) hw1).trans x2
    have h2 := H1.out.below hb2 (Nat.le_refl _)
    have H2 := Lib.hid h2
    have HB2 := Lib.hid (HB1.out.trans (hb2.mono (by omega)))
    have HX2 := Lib.hid ((hb2.block w.heap.size hw1).trans HX.out)
    clear hk6 hb2 h2
    by_cases hbl : ok = true ∧ (d = true ∨ z2 ≤ (s.cost : Int))
    · obtain ⟨rfl, hbl⟩ := hbl
      have HR := Lib.hid (show PutR f s f from by
        rcases HOK.out with ⟨_, k, hk1, hk2⟩ | ⟨h9, _⟩
        · exact .inl ⟨k, d, hk1, hbl.imp id (fun h => by omega), rfl⟩
        · cases h9)
      clear HOK HL
      cases d with
      | true =>
        go_wp2
        exact bodyPost_ret (results_none rfl _ _ _) rfl ⟨rfl, own, f, HR.out, H2.out, FStep.of_below HB2.out, fun q r hq _ => HB2.out.block q (H0.out.lt q r hq).2⟩
      | false =>
        have hle : z2 ≤ (s.cost : Int) := by
          rcases hbl with h | h
          · cases h
          · exact h
        clear hbl
        go_wp2
        exact bodyPost_ret (results_none rfl _ _ _) rfl ⟨rfl, own, f, HR.out, H2.out, FStep.of_below HB2.out, fun q r hq _ => HB2.out.block q (H0.out.lt q r hq).2⟩
    · have HR0 := Lib.hid (show ∀ k e, f.mar s.num s.st = some (k, e) → e = false ∧ s.cost < k.cost from fun k e hke => by
        rcases HOK.out with ⟨h8, k', hk1, hk2⟩ | ⟨_, h9⟩
        · rw [hk1] at hke
          injection hke with hke
          injection hke with e1 e2
          subst e1 e2 h8
          cases d with
          | true => exact absurd ⟨rfl, .inl rfl⟩ hbl
          | false =>
            refine ⟨rfl, ?_⟩
            rcases Nat.lt_or_ge s.cost k'.cost with h | h
            · exact h
            · exact absurd ⟨rfl, .inr (by omega)⟩ hbl
        · rw [h9] at hke; cases hke)
      have hcond : ok = false ∨ (ok = true ∧ d = false ∧ ¬ z2 ≤ (s.cost : Int)) := by
        cases ok with
        | false => exact .inl rfl
        | true =>
          cases d with
          | true => exact absurd ⟨rfl, .inl rfl⟩ hbl
          | false => exact .inr ⟨rfl, rfl, fun h => hbl ⟨rfl, .inr h⟩⟩
      obtain ⟨A2, c2', AM2, cM2, AT2, cT2, MV2, d1, ⟨d2, d3⟩, _⟩ := H2.out.blk
      obtain ⟨n2, hm2⟩ := H2.out.mks
      obtain ⟨W3, hset, hm3, hg3⟩ := MapIs.set (w := W2.drew) hm2 placeK Tryz.underlying239 hk (val := .agg #[.int .i64 (s.num : Int), .int .i64 (s.st : Int), .int .i64 (s.cost : Int), .int .i64 s.frm, .int .i64 s.tree, .bool false]) (f' := mkF (upM f.mar s.num s.st (s, false))) (mkF_up f.mar s.num s.st (s, false)) (mkF_ne f.mar s.num s.st (s, false))
      have hset' : (Instr.mapUpdate 239 (.map (some mm)) (.agg #[.int .i64 (s.num : Int), .int .i64 (s.st : Int)]) (.agg #[.int .i64 (s.num : Int), .int .i64 (s.st : Int), .int .i64 (s.cost : Int), .int .i64 s.frm, .int .i64 s.tree, .bool false])).run Tryz.prog W2.drew = .ok () W3 := hset
      have k2 := Lib.cell_of_heap d1 2
      simp only [List.getElem?_toArray, List.getElem?_cons_zero, List.getElem?_cons_succ] at k2
      have HD1 := Lib.hid d1
      have HD := Lib.hid (And.intro d2 d3)
      have HM3 := Lib.hid hm3
      have HG3 := Lib.hid hg3
      have hmw : mm < w.heap.size := (H0.out.lt mm _ H0.out.mkm).2
      have hX3 := (hg3.block w.heap.size (by have := HB2.out.size; have := HX2.out; exact (Array.getElem?_eq_some_iff.1 HX2.out).1) (fun e => by injection e with e; omega)).trans HX2.out
      have hs3 : W2.heap.size ≤ W3.heap.size := hg3.size
      have hfm : fb ≠ mm := fun e => by have := H2.out.fin; rw [e, H2.out.mkm] at this; injection this with this; cases this
      have hd3 : W3.heap[fb]? = _ := (hg3.block fb (H2.out.lt fb _ H2.out.fin).2 (fun e => by injection e with e; exact hfm e)).trans d1
      have hQ3 : QIs W3.drew base fb 1 244 (finC mv A2 f.q.length c2' mm AM2 f.met.length cM2 AT2 f.trees.length cT2 mf) A2 c2' f.q :=
        ⟨hd3, rfl, fown_block d2 fun q hq => hg3.block q (d2.lt q hq).2 (fun e => by have := d3 q hq; injection e with e; rw [e, H2.out.mkm] at this; injection this with this; cases this), fun e => by have := d3 fb e; rw [H2.out.fin] at this; injection this with this; cases this⟩
      have HQ3 := Lib.hid hQ3
      have HX3 := Lib.hid hX3
      have a0 := Lib.cell_of_heap HX2.out 0
      have a1 := Lib.cell_of_heap HX2.out 1
      have a2 := Lib.cell_of_heap HX2.out 2
      have a3 := Lib.cell_of_heap HX2.out 3
      have a4 := Lib.cell_of_heap HX2.out 4
      have e0 := Lib.cell_of_heap hX3 0
      have e1 := Lib.cell_of_heap hX3 1
      have e2 := Lib.cell_of_heap hX3 2
      have e3 := Lib.cell_of_heap hX3 3
      have e4 := Lib.cell_of_heap hX3 4
      simp only [List.getElem?_toArray, List.getElem?_cons_zero, List.getElem?_cons_succ] at a0 a1 a2 a3 a4 e0 e1 e2 e3 e4
      have hbs : base ≤ W3.drew.heap.size := by have := (H2.out.lt fb _ H2.out.fin); show base ≤ W3.heap.size; omega
      have HS3 := Lib.hid hs3
      clear hset hm3 hg3 hX3 hs3 hd3 hQ3 d1 d2 d3 hbl x2'
      rcases hcond with rfl | ⟨rfl, rfl, hlt⟩
      all_goals
        clear HOK HL
        go_upto_region 3 with fail
        go_region
        go_upto_region 4 with fail
        go_region_with (go_at_call 186; refine (hpush_any HQ3.out hbs hl s hH).mono ?_; rintro e W5 ⟨rfl, q', hp, hh, hq5⟩)
        all_goals
          have hpush := FIs.pushed H2.out HD1.out (W3 := W3.drew) (n := n2 + 1) HM3.out ⟨HG3.out.os, HG3.out.tape, HG3.out.output, HG3.out.size, HG3.out.block⟩ HS3.out hq5
          obtain ⟨own', hF, hS, hU⟩ := hpush
          have HU := Lib.hid hU
          have HF := Lib.hid hF
          have HSt := Lib.hid hS
          have HP := Lib.hid (And.intro hp hh)
          clear hF hS hU hq5 hp hh
          go_wp2
          refine bodyPost_end (results_none rfl _ _ _) rfl ⟨rfl, own', { f with q := q', mar := upM f.mar s.num s.st (s, false) }, .inr ⟨HR0.out, q', HP.out.1, HP.out.2, rfl⟩, HF.out, (FStep.of_below HB2.out).trans HSt.out, FQu.trans (fun q r hq _ => HB2.out.block q (H0.out.lt q r hq).2) (FStep.of_below HB2.out) HU.out⟩
end Go.Proofs.YtnkelhmjkmeilaaGreatDoor.H
end
section
namespace Go.Proofs.YtnkelhmjkmeilaaGreatDoor.H
open Go.RowKit Go.Maps Go.WideMaps
attribute [local go_sem ↓] Go.wp_at_zero Go.wp_at_succ
def topC : Nat := 4611686018427387904
def addC (a b : Nat) : Nat := if topC ≤ a + b then topC else a + b
theorem addC_le (a b : Nat) : addC a b ≤ topC := by unfold addC; split <;> omega
theorem add_any {w : World} {a b : Nat} (ha : a ≤ topC) (hb : b ≤ topC) : Calls Tryz.prog 155 #[.int .i64 (a : Int), .int .i64 (b : Int)] w fun e w' => e = .returned (.int .i64 (addC a b : Int)) ∧ w = w' := by
  unfold topC at ha hb
  by_cases h : topC ≤ a + b
  · have hr := Lib.hid (show addC a b = topC by unfold addC; rw [if_pos h])
    unfold topC at h
    have h1 : (4611686018427387904 : Int) - (b : Int) ≤ (a : Int) := by omega
    go_enter Tryz.func155, Tryz.ntmps155
    go_wp2
    go_ret
    exact ⟨ret_int (by rw [hr.out]; rfl), rfl⟩
  · have hr := Lib.hid (show addC a b = a + b by unfold addC; rw [if_neg h])
    unfold topC at h
    have h1 : ¬ ((4611686018427387904 : Int) - (b : Int) ≤ (a : Int)) := by omega
    go_enter Tryz.func155, Tryz.ntmps155
    go_wp2
    go_ret
    exact ⟨ret_int (by rw [hr.out]; omega), rfl⟩
structure Mc where
  L : Nat
  K : Nat
  sz : Nat → Nat
  nx : Nat → Nat → Nat → Nat
  out : Nat → Nat → Nat
structure Mc.Ok (M : Mc) : Prop where
  pos : ∀ n, n ≤ M.L → 0 < M.sz n
  nx : ∀ n s t, n ≤ M.L → s < M.sz n → t < M.K → M.nx n s t < M.sz n
  out : ∀ n s, n < M.L → s < M.sz n → M.out n s < M.K
  fewL : M.L ≤ 100
  fewS : ∀ n, n ≤ M.L → M.sz n ≤ 400
  fewK : M.K ≤ 400
def MachAt (w0 : World) (mv : Value) (M : Mc) : Prop := ∃ T v Fl Fn Fo, mv = .iface T v ∧
  (∀ k w, (method (k + 1) T v "strainer/hedge.labels").run Tryz.prog w = .ok (Fl, v) w) ∧ (∀ k w, (method (k + 1) T v "strainer/hedge.next").run Tryz.prog w = .ok (Fn, v) w) ∧ (∀ k w, (method (k + 1) T v "strainer/hedge.out").run Tryz.prog w = .ok (Fo, v) w) ∧
  (∀ args w, (callFunc Fl args).run Tryz.prog w = .ok (.enter Fl args) w) ∧ (∀ args w, (callFunc Fn args).run Tryz.prog w = .ok (.enter Fn args) w) ∧ (∀ args w, (callFunc Fo args).run Tryz.prog w = .ok (.enter Fo args) w) ∧
  (∀ w, Below w0.heap.size w0 w → Calls Tryz.prog Fl #[v] w fun e w' => e = .returned (.int .i64 (M.L : Int)) ∧ Below w.heap.size w w') ∧
  (∀ w n s t, Below w0.heap.size w0 w → n ≤ M.L → s < M.sz n → t < M.K → Calls Tryz.prog Fn #[v, .int .i64 (n : Int), .int .i64 (s : Int), .int .i64 (t : Int)] w fun e w' => e = .returned (.int .i64 (M.nx n s t : Int)) ∧ Below w.heap.size w w') ∧
  (∀ w n s, Below w0.heap.size w0 w → n ≤ M.L → s < M.sz n → Calls Tryz.prog Fo #[v, .int .i64 (n : Int), .int .i64 (s : Int)] w fun e w' => e = .returned (.int .i64 (M.out n s : Int)) ∧ Below w.heap.size w w')
theorem fld_mk (a b c d e f : Value) (w : World) : (Instr.field 249 (.agg #[a, b, c, d, e, f]) 0).run Tryz.prog w = .ok (.agg #[a, b, c, d, e]) w := by kernel_rfl
theorem fld_dn (a b c d e f : Value) (w : World) : (Instr.field 249 (.agg #[a, b, c, d, e, f]) 1).run Tryz.prog w = .ok f w := by kernel_rfl
theorem fld_st (a b c d e : Value) (w : World) : (Instr.field 200 (.agg #[a, b, c, d, e]) 1).run Tryz.prog w = .ok c w := by kernel_rfl
theorem fld_sr (a b c : Value) (w : World) : (Instr.field 252 (.agg #[a, b, c]) 1).run Tryz.prog w = .ok c w := by kernel_rfl
set_option maxHeartbeats 2000000 in
set_option maxRecDepth 100000 in
theorem goOn_any {w0 w : World} {own : FOwn} {base fb mm mf : Nat} {mv : Value} {f : FS} {M : Mc} (h : FIs w own base fb mm mf mv f) (hM : MachAt w0 mv M) (hO : M.Ok) (hb : Below w0.heap.size w0 w) (_hB : w0.heap.size ≤ base) (hH : Heap f.q) (hl : f.q.length < 1000000000000)
    {n s t : Nat} (hn : n ≤ M.L) (hs : s < M.sz n) (ht : t < M.K) {k : Stp} {d : Bool} {src : Src} (hk : f.mar n s = some (k, d)) (hsrc : f.fnd t = some src) (hkc : k.cost ≤ topC) (hsc : src.cost ≤ topC) :
    Calls Tryz.prog 153 #[.pointer (some ⟨fb, 0, none⟩), .agg #[.int .i64 (n : Int), .int .i64 (s : Int)], .int .i64 (t : Int)] w fun e w' =>
      e = .returned (.tuple #[]) ∧ ∃ own' f', PutR f ⟨n, M.nx n s t, addC k.cost src.cost, s, t⟩ f' ∧ FIs w' own' base fb mm mf mv f' ∧ FStep w w' own own' ∧ FQu w w' own := by
  have hnb : n ≤ 1000000000000 := by have := hO.fewL; omega
  have hsb : s ≤ 1000000000000 := by have := hO.fewS n hn; omega
  have htb : t ≤ 1000000000000 := by have := hO.fewK; omega
  have hxb : M.nx n s t ≤ 1000000000000 := by have := hO.nx n s t hn hs ht; have := hO.fewS n hn; omega
  obtain ⟨l, hkey⟩ := keyPl hnb hsb
  have hB1 := (Below.refl _ w).alloc (Nat.le_refl _) (.cells #[.int .i64 (n : Int), .int .i64 (s : Int)] 198)
  have hx := heap_alloc_new w (.cells #[.int .i64 (n : Int), .int .i64 (s : Int)] 198)
  have h1 := h.below hB1 (Nat.le_refl _)
  have hsz : (w.alloc (.cells #[.int .i64 (n : Int), .int .i64 (s : Int)] 198)).heap.size = w.heap.size + 1 := World.size_alloc _ _
  have hw0 := hb.size
  go_enter Tryz.func153, Tryz.ntmps153
  go_wp2
  generalize w.alloc (.cells #[.int .i64 (n : Int), .int .i64 (s : Int)] 198) = W1 at *
  obtain ⟨A, c, AM, cM, AT, cT, MV, b1, _⟩ := h1.blk
  obtain ⟨n1, hm1⟩ := h1.mks
  obtain ⟨n2, hm2⟩ := h1.fns
  have hlk1 := hm1.drew.look placeK Tryz.underlying239 (zMk W1.drew) hkey false
  have hlk2 := hm2.drew.look intK Tryz.underlying240 (zSr W1.drew) (keyIn htb) false
  rw [mkF_at, hk] at hlk1
  rw [fnF_at, hsrc] at hlk2
  have hlk1' : (Instr.lookup 239 (.map (some mm)) (.agg #[.int .i64 (n : Int), .int .i64 (s : Int)]) false).run Tryz.prog W1.drew = .ok (.agg #[.int .i64 (k.num : Int), .int .i64 (k.st : Int), .int .i64 (k.cost : Int), .int .i64 k.frm, .int .i64 k.tree, .bool d]) W1.drew := hlk1
  have hlk2' : (Instr.lookup 240 (.map (some mf)) (.int .i64 (t : Int)) false).run Tryz.prog W1.drew = .ok (.agg #[.int .i64 (src.num : Int), .int .i64 (src.st : Int), .int .i64 (src.cost : Int)]) W1.drew := hlk2
  have c0 := Lib.cell_of_heap b1 0
  have c2 := Lib.cell_of_heap b1 2
  have c5 := Lib.cell_of_heap b1 5
  have x0 := Lib.cell_of_heap hx 0
  have x1 := Lib.cell_of_heap hx 1
  simp only [List.getElem?_toArray, List.getElem?_cons_zero, List.getElem?_cons_succ] at c0 c2 c5 x0 x1
  have hfb := (h1.lt fb _ h1.fin).2
  have hwl : w.heap.size < W1.heap.size := by omega
  have H0 := Lib.hid h
  have H1 := Lib.hid h1
  have HX := Lib.hid hx
  have HB1 := Lib.hid hB1
  have hwW : Below w0.heap.size w0 W1 := hb.trans (hB1.mono hw0)
  have HW := Lib.hid hwW
  obtain ⟨T, v, Fl, Fn, Fo, rfl, _, mN, _, _, cN, _, _, kN, _⟩ := hM
  have HN := Lib.hid (fun w' (hw' : Below w0.heap.size w0 w') => kN w' n s t hw' hn hs ht)
  have HAD := Lib.hid (add_any (w := W1.drew) hkc hsc)
  generalize hcv : addC k.cost src.cost = cv at *
  generalize hxv : M.nx n s t = xv at *
  have HCV := Lib.hid hcv
  have HXV := Lib.hid hxv
  clear hlk1 hlk2 hm1 hm2 b1 h1 hx hB1 h kN hwW hkey hk hsrc hcv hxv
  have fm := fld_mk
  have fs := fld_st
  have fr := fld_sr
  go_upto_region 1 with fail
  go_cut [6] (fun s6 wx => s6 = .int .i64 (cv : Int) ∧ wx = W1.drew)
  case first =>
    go_region_held3 (fun w' => w' = W1.drew ∧ (Instr.lookup 239 (.map (some mm)) (.agg #[.int .i64 (n : Int), .int .i64 (s : Int)]) false).run Tryz.prog w' = .ok (.agg #[.int .i64 (k.num : Int), .int .i64 (k.st : Int), .int .i64 (k.cost : Int), .int .i64 k.frm, .int .i64 k.tree, .bool d]) w' ∧
        (Instr.lookup 240 (.map (some mf)) (.int .i64 (t : Int)) false).run Tryz.prog w' = .ok (.agg #[.int .i64 (src.num : Int), .int .i64 (src.st : Int), .int .i64 (src.cost : Int)]) w' ∧
        w'.cell? ⟨fb, 2, none⟩ = some (.map (some mm)) ∧ w'.cell? ⟨fb, 5, none⟩ = some (.map (some mf)) ∧ w'.cell? ⟨w.heap.size, 0, none⟩ = some (.int .i64 (n : Int)) ∧ w'.cell? ⟨w.heap.size, 1, none⟩ = some (.int .i64 (s : Int)))
      (first
        | exact ⟨rfl, hlk1', hlk2', c2, c5, x0, x1⟩
        | go_keep)
      (first
        | (go_at_call 155; refine HAD.out.mono ?_; rintro e w' ⟨rfl, rfl⟩))
    all_goals
      go_wp2_with fail
      go_meet
      exact ⟨rfl, rfl⟩
  case rest =>
    obtain ⟨rfl, rfl⟩ := hcut
    clear hlk1' hlk2' c2 c5 fm fs fr
    have HNC := Lib.hid (HN.out W1.drew.drew (Below.drew (Below.drew HW.out)))
    go_upto_region 2 with fail
    go_cut [7] (fun s7 wx => s7 = .int .i64 (xv : Int) ∧ Below W1.heap.size W1 wx)
    case first =>
      go_region_held3 (fun w' => w'.cell? ⟨fb, 0, none⟩ = some (.iface T v) ∧ w'.cell? ⟨w.heap.size, 0, none⟩ = some (.int .i64 (n : Int)) ∧ w'.cell? ⟨w.heap.size, 1, none⟩ = some (.int .i64 (s : Int)))
        (first
          | exact ⟨c0, x0, x1⟩
          | exact ⟨(b2.cell (p := ⟨fb, 0, none⟩) hfb).trans c0, (b2.cell (p := ⟨w.heap.size, 0, none⟩) hwl).trans x0, (b2.cell (p := ⟨w.heap.size, 1, none⟩) hwl).trans x1⟩
          | go_keep)
        (first
          | (refine HNC.out.mono ?_; rintro e W2 ⟨rfl, b2⟩))
      all_goals
        go_wp2_with fail
        go_meet
        exact ⟨rfl, (Below.drew (Below.drew (Below.refl _ W1))).trans b2⟩
    case rest =>
      obtain ⟨rfl, b3⟩ := hcut
      rename World => W3
      have hX3 := (b3.block w.heap.size hwl).trans HX.out
      have y0 := Lib.cell_of_heap hX3 0
      have y1 := Lib.cell_of_heap hX3 1
      simp only [List.getElem?_toArray, List.getElem?_cons_zero, List.getElem?_cons_succ] at y0 y1
      have hF3 := H1.out.below b3 (Nat.le_refl _)
      have HF3 := Lib.hid hF3
      have HB3 := Lib.hid (HB1.out.trans (b3.mono (by omega)))
      clear hX3 hF3 b3 mN cN
      go_wp2_with fail
      refine (put_any HF3.out hH hl ⟨n, xv, cv, s, t⟩ hnb hxb).mono ?_
      rintro e W5 ⟨rfl, own', f', hP, hF, hS, hU⟩
      have HU := Lib.hid hU
      have HP := Lib.hid hP
      have HF := Lib.hid hF
      have HSt := Lib.hid hS
      clear hP hF hS hU
      go_wp2
      exact bodyPost_end (results_none rfl _ _ _) rfl ⟨rfl, own', f', by rw [HCV.out, HXV.out]; exact HP.out, HF.out, (FStep.of_below HB3.out).trans HSt.out, FQu.trans (fun q r hq _ => HB3.out.block q (H0.out.lt q r hq).2) (FStep.of_below HB3.out) HU.out⟩
end Go.Proofs.YtnkelhmjkmeilaaGreatDoor.H
end
section
namespace Go.Proofs.YtnkelhmjkmeilaaGreatDoor.H
open Go.RowKit Go.Maps Go.WideMaps
attribute [local go_sem ↓] Go.wp_at_zero Go.wp_at_succ
structure Sd where
  nx : List (List Int)
  out : List Int
structure Hd where
  K : Int
  labs : List Sd
  root : Sd
def rowC (l : List Int) : Cl := .s 1 l.length (l.map .i)
def sdC (s : Sd) : List Cl := [.s 1 s.nx.length (s.nx.map rowC), .s 1 s.out.length (s.out.map .i)]
theorem sdC_len (s : Sd) : (sdC s).length = 2 := rfl
structure SdV (w : World) (S : Nat → Prop) (s : Sd) (B : Option Addr) (c1 : Nat) (C : Option Addr) (c2 : Nat) : Prop where
  nx : SlP w S 1 B s.nx.length (s.nx.map rowC)
  le1 : Cap s.nx.length c1
  out : SlP w S 1 C s.out.length (s.out.map .i)
  le2 : Cap s.out.length c2
structure HdV (w : World) (S : Nat → Prop) (h : Hd) (A : Option Addr) (c : Nat) (B : Option Addr) (c1 : Nat) (C : Option Addr) (c2 : Nat) : Prop where
  labs : SlP w S 2 A h.labs.length (h.labs.flatMap sdC)
  le : Cap h.labs.length c
  root : SdV w S h.root B c1 C c2
abbrev sdVal (s : Sd) (B : Option Addr) (c1 : Nat) (C : Option Addr) (c2 : Nat) : Value := .agg #[.slice B s.nx.length c1, .slice C s.out.length c2]
abbrev hdVal (h : Hd) (A : Option Addr) (c : Nat) (B : Option Addr) (c1 : Nat) (C : Option Addr) (c2 : Nat) : Value := .agg #[.int .i64 h.K, .slice A h.labs.length c, .slice B h.root.nx.length c1, .slice C h.root.out.length c2]
section
variable {w w' : World} {S S' : Nat → Prop} {s : Sd} {h : Hd} {A B C : Option Addr} {c c1 c2 : Nat}
theorem SdV.keep (H : SdV w S s B c1 C c2) (hk : ∀ p : Addr, S p.block → w'.cell? p = w.cell? p) : SdV w' S s B c1 C c2 := ⟨H.nx.keep hk, H.le1, H.out.keep hk, H.le2⟩
theorem SdV.more (H : SdV w S s B c1 C c2) (hS : ∀ b, S b → S' b) : SdV w S' s B c1 C c2 := ⟨H.nx.more hS, H.le1, H.out.more hS, H.le2⟩
theorem HdV.keep (H : HdV w S h A c B c1 C c2) (hk : ∀ p : Addr, S p.block → w'.cell? p = w.cell? p) : HdV w' S h A c B c1 C c2 := ⟨H.labs.keep hk, H.le, H.root.keep hk⟩
theorem HdV.more (H : HdV w S h A c B c1 C c2) (hS : ∀ b, S b → S' b) : HdV w S' h A c B c1 C c2 := ⟨H.labs.more hS, H.le, H.root.more hS⟩
theorem HdV.on (H : HdV w (fun b => b < w.heap.size) h A c B c1 C c2) (hb : Below w.heap.size w w') : HdV w' (fun b => b < w'.heap.size) h A c B c1 C c2 :=
  (H.keep fun _ hp => hb.cell hp).more fun _ hb' => Nat.lt_of_lt_of_le hb' hb.size
theorem SdV.on (H : SdV w (fun b => b < w.heap.size) s B c1 C c2) (hb : Below w.heap.size w w') : SdV w' (fun b => b < w'.heap.size) s B c1 C c2 :=
  (H.keep fun _ hp => hb.cell hp).more fun _ hb' => Nat.lt_of_lt_of_le hb' hb.size
theorem labs_at {l : List Sd} {n : Nat} (H : SlP w S 2 A n (l.flatMap sdC)) {k : Nat} {s : Sd} (hk : l[k]? = some s) : ∃ a B c1 C c2, A = some a ∧ S a.block ∧ w.cell? (a.add (k * 2)) = some (.slice B s.nx.length c1) ∧ w.cell? ⟨(a.add (k * 2)).block, (a.add (k * 2)).off + 1, none⟩ = some (.slice C s.out.length c2) ∧ SdV w S s B c1 C c2 := by
  have h0 := flat_at sdC_len (r := 0) hk (by omega)
  have h1 := flat_at sdC_len (r := 1) hk (by omega)
  obtain ⟨a, B, c1, e1, hS, h2, h3, h4⟩ := H.atSl (k := k * 2) h0
  obtain ⟨a', C, c2, e2, _, h5, h6, h7⟩ := H.atSl (k := k * 2 + 1) h1
  rw [e1] at e2
  injection e2 with e2
  subst e2
  exact ⟨a, B, c1, C, c2, e1, hS, h2, by rw [← add_pos _ 1 (by omega), add_add]; exact h5, h4, h3, h7, h6⟩
theorem SdV.row_at (H : SdV w S s B c1 C c2) {k : Nat} {r : List Int} (hk : s.nx[k]? = some r) : ∃ a R c, B = some a ∧ S a.block ∧ w.cell? (a.add k) = some (.slice R r.length c) ∧ Cap r.length c ∧ SlP w S 1 R r.length (r.map .i) := by
  obtain ⟨a, R, c, e, hS, h1, h2, h3⟩ := H.nx.atSl (k := k) (z' := 1) (n' := r.length) (cs' := r.map .i) (by rw [List.getElem?_map, hk]; rfl)
  exact ⟨a, R, c, e, hS, h1, h2, h3⟩
theorem ints_at' {l : List Int} {n : Nat} (H : SlP w S 1 A n (l.map .i)) {k : Nat} {i : Int} (hk : l[k]? = some i) : ∃ a, A = some a ∧ S a.block ∧ w.cell? (a.add k) = some (.int .i64 i) :=
  H.atInt (by rw [List.getElem?_map, hk]; rfl)
end
structure SdOk (s : Sd) (K o : Nat) : Prop where
  pos : 0 < s.out.length
  len : s.nx.length = s.out.length
  rows : ∀ r ∈ s.nx, r.length = K ∧ ∀ x ∈ r, 0 ≤ x ∧ x < s.out.length
  outs : ∀ x ∈ s.out, 0 ≤ x ∧ x < o
def Sd.nxt (s : Sd) (i v : Nat) : Nat := (((s.nx[i]?).getD [])[v]?.getD 0).toNat
def Sd.tell (s : Sd) (i : Nat) : Nat := (s.out[i]?.getD 0).toNat
theorem SdOk.nxt {s : Sd} {K o i v : Nat} (h : SdOk s K o) (hi : i < s.out.length) (hv : v < K) : ∃ r, s.nx[i]? = some r ∧ r.length = K ∧ r[v]? = some (s.nxt i v : Int) ∧ s.nxt i v < s.out.length := by
  have hi' : i < s.nx.length := by rw [h.len]; exact hi
  obtain ⟨h1, h2⟩ := h.rows s.nx[i] (List.getElem_mem _)
  have hv' : v < s.nx[i].length := by omega
  obtain ⟨h3, h4⟩ := h2 s.nx[i][v] (List.getElem_mem _)
  refine ⟨s.nx[i], List.getElem?_eq_getElem hi', h1, ?_, ?_⟩
  · rw [Sd.nxt, List.getElem?_eq_getElem hi', Option.getD_some, List.getElem?_eq_getElem hv', Option.getD_some, Int.toNat_of_nonneg h3]
  · rw [Sd.nxt, List.getElem?_eq_getElem hi', Option.getD_some, List.getElem?_eq_getElem hv', Option.getD_some]
    omega
theorem SdOk.tell {s : Sd} {K o i : Nat} (h : SdOk s K o) (hi : i < s.out.length) : s.out[i]? = some (s.tell i : Int) ∧ s.tell i < o := by
  obtain ⟨h3, h4⟩ := h.outs s.out[i] (List.getElem_mem _)
  refine ⟨?_, ?_⟩
  · rw [Sd.tell, List.getElem?_eq_getElem hi, Option.getD_some, Int.toNat_of_nonneg h3]
  · rw [Sd.tell, List.getElem?_eq_getElem hi, Option.getD_some]
    omega
structure HdOk (h : Hd) (m : Nat) : Prop where
  K1 : 1 ≤ h.K
  labs : ∀ s ∈ h.labs, SdOk s h.K.toNat h.K.toNat
  root : SdOk h.root h.K.toNat 2
  fewL : h.labs.length ≤ 100
  fewS : ∀ s ∈ h.labs, s.out.length ≤ m
  fewR : h.root.out.length ≤ m
  fewK : h.K ≤ m
def Hd.side (h : Hd) (n : Nat) : Sd := (h.labs[n]?).getD h.root
theorem Hd.side_lt {h : Hd} {n : Nat} (hn : n < h.labs.length) : h.labs[n]? = some (h.side n) := by rw [Hd.side, List.getElem?_eq_getElem hn]; rfl
theorem Hd.side_ge {h : Hd} {n : Nat} (hn : h.labs.length ≤ n) : h.side n = h.root := by rw [Hd.side, List.getElem?_eq_none hn]; rfl
def Hd.mc (h : Hd) : Mc := ⟨h.labs.length, h.K.toNat, fun n => (h.side n).out.length, fun n s t => (h.side n).nxt s t, fun n s => (h.side n).tell s⟩
theorem HdOk.sideOk {h : Hd} {m : Nat} (H : HdOk h m) (n : Nat) : SdOk (h.side n) h.K.toNat (if n < h.labs.length then h.K.toNat else 2) ∧ (h.side n).out.length ≤ m := by
  by_cases hn : n < h.labs.length
  · rw [if_pos hn]
    have := List.mem_of_getElem? (Hd.side_lt hn)
    exact ⟨H.labs _ this, H.fewS _ this⟩
  · rw [if_neg hn, Hd.side_ge (by omega)]
    exact ⟨H.root, H.fewR⟩
theorem HdOk.mcOk {h : Hd} {m : Nat} (H : HdOk h m) (hm : m ≤ 400) : h.mc.Ok := by
  refine ⟨fun n _ => (H.sideOk n).1.pos, fun n s t _ hs ht => ?_, fun n s hn hs => ?_, H.fewL, fun n _ => Nat.le_trans (H.sideOk n).2 hm, ?_⟩
  · obtain ⟨r, _, _, _, h4⟩ := (H.sideOk n).1.nxt hs ht
    exact h4
  · have := (H.sideOk n).1.tell hs
    rw [if_pos (show n < h.labs.length from hn)] at this
    exact this.2
  · have h1 := H.fewK
    show h.K.toNat ≤ 400
    omega
theorem HdOk.out2 {h : Hd} {m : Nat} (H : HdOk h m) : ∀ s, s < h.mc.sz h.mc.L → h.mc.out h.mc.L s ≤ 1000 := fun s hs => by
  have h1 := (H.sideOk h.labs.length).1.tell hs
  rw [if_neg (Nat.lt_irrefl _)] at h1
  have := h1.2
  show (h.side h.labs.length).tell s ≤ 1000
  omega
theorem results_cell1' {fn : Func} {p : Tmp} {ty : TypeId} (h : fn.results = #[.cell p ty]) (tmps : Array Value) (P : Program) (w : World) :
    (results fn tmps).run P w = ((asAddr (tmps.getD p undef)).run P w).andThen fun a w₁ => (loadVar ty a).run P w₁ := by
  simp only [results, h]
  simp [Sem.run_bind, Result.andThen]
theorem ret_sd {f : Func} {p : Tmp} (h : f.results = #[.cell p 113]) {a : Act} {w : World} {g : Nat} {v0 v1 : Value} {R : Ending → World → Prop} (hp : a.tmps.getD p undef = .pointer (some ⟨g, 0, none⟩)) (hd : a.defers = [])
    (hg : w.heap[g]? = some (.cells #[v0, v1] 113 (0, 0))) (hR : R (.returned (.agg #[v0, v1])) w) : bodyPost Tryz.prog f R .ret a w := by
  have hc := fun j => Lib.cell_of_heap hg j
  have c0 := hc 0
  have c1 := hc 1
  simp only [List.getElem?_toArray, List.getElem?_cons_zero, List.getElem?_cons_succ] at c0 c1
  refine bodyPost_ret (v := .agg #[v0, v1]) ?_ hd hR
  rw [results_cell1' h, hp]
  go_simp
theorem two_stored {w : World} {g : Nat} {a b : Value} {T : TypeId} (h : w.heap[g]? = some (.cells #[a, b] T (0, 0))) (v0 v1 : Value) : ((w.setCell ⟨g, 0, none⟩ v0).setCell ⟨g, 1, none⟩ v1).heap[g]? = some (.cells #[v0, v1] T (0, 0)) := by
  have h0 := heap_setCell_same w g 0 _ _ v0 h
  have h1 := heap_setCell_same _ g 1 _ _ v1 h0
  simpa using h1
end Go.Proofs.YtnkelhmjkmeilaaGreatDoor.H
end
