/- The finder's tell. The finder's run. -/
import Derived.Laws.ResultCell
import Derived.Test.YtnkelhmjkmeilaaGreatDoorT21
section
namespace Go.Proofs.YtnkelhmjkmeilaaGreatDoor.H
open Go.RowKit Go.Maps Go.WideMaps
attribute [local go_sem ↓] Go.wp_at_zero Go.wp_at_succ
def sumL (m : List (List Nat)) : Nat := (m.map List.length).sum
theorem sumL_take {m : List (List Nat)} {i : Nat} (hi : i < m.length) : sumL (m.take (i + 1)) = sumL (m.take i) + m[i].length := by
  unfold sumL
  rw [List.take_succ_eq_append_getElem hi, List.map_append, List.sum_append]
  simp
theorem sumL_le (m : List (List Nat)) (i : Nat) : sumL (m.take i) ≤ sumL m := by
  unfold sumL
  conv => rhs; rw [← List.take_append_drop i m]
  rw [List.map_append, List.sum_append]
  omega
def pend (m : List (List Nat)) (v i j : Nat) : Nat → Nat → Nat → Prop := fun a b c => c = v ∧ (i < a ∨ (a = i ∧ b ∈ (m.getD i []).drop j))
theorem infoSl : (Tryz.prog.info? 111).map (fun i => (i.zero, i.size, i.bytes)) = some (some (.slice none 0 0), 1, 24) := by kernel_rfl
theorem rowSl : Row Tryz.prog 110 111 1 24 := by
  obtain ⟨i, hi, hz, h1, h2⟩ := info_parts infoSl
  exact ⟨Tryz.underlying110, ⟨i, _, hi, hz, h1, h2, rfl⟩, by decide⟩
theorem infoIn : (Tryz.prog.info? 3).map (fun i => (i.zero, i.size, i.bytes)) = some (some (.int .i64 0), 1, 8) := by kernel_rfl
theorem rowIn : Row Tryz.prog 111 3 1 8 := by
  obtain ⟨i, hi, hz, h1, h2⟩ := info_parts infoIn
  exact ⟨Tryz.underlying111, ⟨i, _, hi, hz, h1, h2, rfl⟩, by decide⟩
structure Alike (f f' : FS) : Prop where
  met : f'.met = f.met
  trees : f'.trees = f.trees
  fnd : f'.fnd = f.fnd
  mar : ∀ n s k, f'.mar n s = some (k, true) ↔ f.mar n s = some (k, true)
theorem Alike.refl (f : FS) : Alike f f := ⟨rfl, rfl, rfl, fun _ _ _ => Iff.rfl⟩
theorem Alike.trans {f f' f'' : FS} (h : Alike f f') (h' : Alike f' f'') : Alike f f'' := ⟨h'.met.trans h.met, h'.trees.trans h.trees, h'.fnd.trans h.fnd, fun n s k => (h'.mar n s k).trans (h.mar n s k)⟩
theorem put_alike {f f' : FS} {s : Stp} (h : PutR f s f') : Alike f f' := by
  obtain ⟨h1, h2, h3, h4, _, _, h5⟩ := put_grows h
  exact ⟨h2, h3, h4, fun n s k => ⟨h5 n s k, h1.1 n s k⟩⟩
set_option maxHeartbeats 4000000 in
set_option maxRecDepth 100000 in
theorem tell_any {w0 w : World} {own : FOwn} {base fb mm mf N cur n0 s0 : Nat} {mv : Value} {f : FS} {M : Mc} (h : FIs w own base fb mm mf mv f) (hM : MachAt w0 mv M) (hO : M.Ok) (hN : N ≤ M.L + 1) (hb : Below w0.heap.size w0 w) (hB : w0.heap.size ≤ base)
    (hI : FInv M N N cur f (fun _ _ _ => False) (fun a b => a = n0 ∧ b = s0)) {k : Stp} (hk : f.mar n0 s0 = some (k, true)) (hkc : k.cost = cur) (hL : n0 < M.L) (hv : f.fnd (M.out n0 s0) = none) (hH : Heap f.q) (hl : f.q.length + sumL f.met < 1000000000000) (htl : f.trees.length ≤ 1000) :
    Calls Tryz.prog 154 #[.pointer (some ⟨fb, 0, none⟩), .int .i64 (M.out n0 s0 : Int), .agg #[.int .i64 (n0 : Int), .int .i64 (s0 : Int), .int .i64 (addC k.cost 1 : Int)]] w fun e w' =>
      e = .returned (.tuple #[]) ∧ ∃ own' f', FIs w' own' base fb mm mf mv f' ∧ FInv M N N cur f' (fun _ _ _ => False) (fun _ _ => False) ∧ Heap f'.q ∧ FStep w w' own own' ∧ f'.met = f.met ∧ (∀ n s k, f'.mar n s = some (k, true) ↔ f.mar n s = some (k, true)) ∧ f'.q.length ≤ f.q.length + sumL f.met := by
  subst hkc
  have hlt' := hI.lt hO hN hk
  have hvK : M.out n0 s0 < M.K := hO.out _ _ hL hlt'.2.1
  have hI2 := hI.tell hk hL hv
  have hvb : M.out n0 s0 ≤ 1000000000000 := by have := hO.fewK; omega
  generalize hov : M.out n0 s0 = v at *
  obtain ⟨src, hsrc⟩ : ∃ src : Src, src = ⟨n0, s0, addC k.cost 1⟩ := ⟨_, rfl⟩
  rw [← hsrc] at hI2
  have hsc := Lib.hid (show src.cost = addC k.cost 1 by rw [hsrc])
  have HSRC := Lib.hid hsrc
  clear hsrc
  have hB1 := (Below.refl _ w).alloc (Nat.le_refl _) (.cells #[.int .i64 (n0 : Int), .int .i64 (s0 : Int), .int .i64 (addC k.cost 1 : Int)] 252)
  have hx := heap_alloc_new w (.cells #[.int .i64 (n0 : Int), .int .i64 (s0 : Int), .int .i64 (addC k.cost 1 : Int)] 252)
  have h1 := h.below hB1 (Nat.le_refl _)
  have hsz : (w.alloc (.cells #[.int .i64 (n0 : Int), .int .i64 (s0 : Int), .int .i64 (addC k.cost 1 : Int)] 252)).heap.size = w.heap.size + 1 := World.size_alloc _ _
  have hw0 := hb.size
  have H0 := Lib.hid h
  go_enter Tryz.func154, Tryz.ntmps154
  go_wp2
  generalize w.alloc (.cells #[.int .i64 (n0 : Int), .int .i64 (s0 : Int), .int .i64 (addC k.cost 1 : Int)] 252) = W1 at *
  generalize hcc : addC k.cost 1 = cc at *
  obtain ⟨A, c, AM, cM, AT, cT, MV, b1, _⟩ := h1.blk
  obtain ⟨n2, hm2⟩ := h1.fns
  obtain ⟨W3, hset, hm3, hg3⟩ := MapIs.set (w := W1.drew) hm2 intK Tryz.underlying240 (keyIn hvb) (val := .agg #[.int .i64 (n0 : Int), .int .i64 (s0 : Int), .int .i64 (cc : Int)]) (f' := fnF (upF f.fnd v src)) (by rw [fnF_up, HSRC.out, ← hcc]; rfl) (fnF_ne f.fnd v src)
  have c5 := Lib.cell_of_heap b1 5
  have x0 := Lib.cell_of_heap hx 0
  have x1 := Lib.cell_of_heap hx 1
  have x2 := Lib.cell_of_heap hx 2
  simp only [List.getElem?_toArray, List.getElem?_cons_zero, List.getElem?_cons_succ] at c5 x0 x1 x2
  obtain ⟨hF3, hS3⟩ := FIs.founded (W := W1) h1 hm3 ⟨hg3.os, hg3.tape, hg3.output, hg3.size, hg3.block⟩
  have HF3 := Lib.hid hF3
  have HS3 := Lib.hid ((FStep.of_below (own := own) hB1).trans hS3)
  have HI2 := Lib.hid hI2
  have HH := Lib.hid hH
  have HK := Lib.hid hk
  have HCC := Lib.hid hcc
  clear h1 hx hB1 h hm2 hm3 hg3 hF3 hS3 hI2 hI b1 hH hov hcc hk
  go_region
  obtain ⟨A3, c3, AM3, cM3, AT3, cT3, MV3, d1, _, _, _, ⟨d7, d8⟩⟩ := HF3.out.blk
  have hfb3 := HF3.out.lt fb _ HF3.out.fin
  have k4 := Lib.cell_of_heap d1 4
  simp only [List.getElem?_toArray, List.getElem?_cons_zero, List.getElem?_cons_succ] at k4
  have hbase : base ≤ W3.heap.size := by omega
  have hnef : some fb ≠ (Value.slice AT3 f.trees.length cT3).ownBlock := fun e => by
    have := d8 fb e.symm
    rw [HF3.out.fin] at this
    injection this with this
    cases this
  have HD1 := Lib.hid d1
  clear d1 c5 x0 x1 x2 hset
  go_upto_region 3 with (at_builtin; go_must (refine wpList_push_at rfl _ _ _ rfl base rowIn AT3 f.trees.length cT3 _ rfl d7 [.int .i64 (v : Int)] _ rfl rfl (by simp [Value.oneCell']) (by unfold maxLen; omega) (by omega) hbase ?_); intro A4 c4 W4 hc4 ho4 hg4 hat4; have g4 := (grown_cell hg4 (a := ⟨fb, 4, none⟩) hfb3.2 hnef).1.trans k4; have f4 := (grown_cell hg4 (a := ⟨fb, 4, none⟩) hfb3.2 hnef).2.trans (Lib.frozen_of_heap HD1.out 4))
  obtain ⟨own5, hF5, hS5⟩ := HF3.out.treed HD1.out ho4 hg4 hat4
  generalize W4.setCell ⟨fb, 4, none⟩ (.slice A4 (f.trees.length + 1) c4) = W5 at *
  have hI5 := HI2.out.weak (P' := pend f.met v 0 0) (X' := fun _ _ => False) (fun a b c kk _ h1 _ h2 => by
    refine ⟨h2.resolve_left id, ?_⟩
    rcases Nat.eq_zero_or_pos a with h9 | h9
    · right
      refine ⟨h9, ?_⟩
      subst h9
      have hl0 := (HI2.out.lt hO hN h1).1
      have hml := HI2.out.ml
      have h8 := (HI2.out.met 0 (by omega) b).2 ⟨kk, h1⟩
      have h7 : 0 < f.met.length := by have : f.met.length = N := hml; omega
      simpa [List.getD, List.getElem?_eq_getElem h7] using h8
    · exact .inl h9) (fun _ _ _ _ h => h)
  obtain ⟨f5, hf5⟩ : ∃ f5 : FS, f5 = { f with fnd := upF f.fnd v src, trees := f.trees ++ [v] } := ⟨_, rfl⟩
  have hF5' : FIs W5 own5 base fb mm mf mv f5 := by rw [hf5]; exact hF5
  have hI5' : FInv M N N k.cost f5 (pend f.met v 0 0) (fun _ _ => False) := by rw [hf5]; exact hI5
  have hq5 : f5.q = f.q := by rw [hf5]
  have hm5 : f5.met = f.met := by rw [hf5]
  have hr5 : f5.mar = f.mar := by rw [hf5]
  have hv5 : f5.fnd v = some src := by rw [hf5]; show upF f.fnd v src v = _; unfold upF; rw [if_pos rfl]
  have hml5 : f.met.length = N := by rw [← hm5]; exact hI5'.ml
  have HS5 := Lib.hid (HS3.out.trans hS5)
  obtain ⟨A5, c5, AM5, cM5, AT5, cT5, MV5, d1, _, ⟨d4, d5⟩, d6, _⟩ := hF5'.blk
  rw [hm5] at d1 d4 d5 d6
  have k3 := Lib.cell_of_heap d1 3
  simp only [List.getElem?_toArray, List.getElem?_cons_zero, List.getElem?_cons_succ] at k3
  have hs5 := HS5.out.kb.size
  have HF5 := Lib.hid hF5'
  have HI5 := Lib.hid hI5'
  have HM5 := Lib.hid hm5
  have HE5 := Lib.hid (And.intro hq5 (And.intro hr5 hv5))
  have HD4 := Lib.hid (And.intro d4 d5)
  have HD6 := Lib.hid d6
  have HML := Lib.hid hml5
  have hNb : N ≤ 101 := by have := hO.fewL; omega
  clear hF5 hS5 hI5 hf5 hF5' hI5' hq5 hm5 hr5 hv5 d1 d4 d5 d6 hml5 ho4 hg4 hat4 g4 f4 d7 d8 k4 hv
  rw [HML.out] at k3
  go_wp2
  go_loopw [31] (fun iv wr => ∃ (i : Nat) (own1 : FOwn) (f1 : FS), iv = .int .i64 i ∧ i ≤ N ∧ FIs wr own1 base fb mm mf mv f1 ∧ FInv M N N k.cost f1 (pend f.met v i 0) (fun _ _ => False) ∧ Hid (Heap f1.q ∧ f1.q.length ≤ f.q.length + sumL (f.met.take i)) ∧ Alike f5 f1 ∧ FStep W5 wr own5 own1 ∧ FQu W5 wr own5) (fun iv _ => N - (intOf iv).toNat)
  case atStart => exact ⟨0, own5, f5, rfl, Nat.zero_le _, HF5.out, HI5.out, ⟨by rw [HE5.out.1]; exact HH.out, by rw [HE5.out.1]; exact Nat.le_add_right _ _⟩, Alike.refl _, FStep.refl _ _, FQu.refl _ _⟩
  case round =>
    obtain ⟨i, own1, f1, rfl, hi, hF1, hI1, hq1, hA1, hS1, hU1⟩ := hrel
    obtain ⟨wo, rfl⟩ : ∃ wo : World, wo = wr := ⟨_, rfl⟩
    by_cases hlt : i < N
    · have him : i < f.met.length := by rw [HML.out]; exact hlt
      obtain ⟨Ai, ci, m1, m2, m3⟩ := HD6.out i him
      have hrow := fown_block HD4.out.1 (w' := wo) fun q hq => hU1 q _ (HD4.out.2 q hq) rfl
      obtain ⟨a, u, hAM, hab, hu, hca⟩ := (Rd.of_own hrow).at_ him
      subst hAM
      rw [m1] at hu
      injection hu with hu
      subst hu
      have hrow2 := fown_block m2 (w' := wo) fun q hq => hU1 q _ (m3 q hq) rfl
      obtain ⟨st, hst⟩ : ∃ st, st = f.met[i] := ⟨_, rfl⟩
      have HMI := Lib.hid (show f.met[i]? = some st by rw [hst]; exact List.getElem?_eq_getElem him)
      have hsum := Lib.hid (show sumL (f.met.take (i + 1)) = sumL (f.met.take i) + st.length by rw [hst]; exact sumL_take him)
      have hsl := sumL_le f.met (i + 1)
      rw [hsum.out] at hsl
      rw [← hst] at hca m2 m3
      have M2 := Lib.hid (And.intro m2 m3)
      have HF1 := Lib.hid hF1
      have HI1 := Lib.hid hI1
      have hstl : st.length ≤ 1000000000000 := by omega
      have hiI : (i : Int) < (N : Int) := by omega
      have hi0 : (0 : Int) ≤ (i : Int) := by omega
      clear hst m1 m2 m3 hrow hrow2 hF1 hI1
      go_wp2
      go_loopw [38] (fun jv wx => ∃ (j : Nat) (own2 : FOwn) (f2 : FS), jv = .int .i64 j ∧ j ≤ st.length ∧ FIs wx own2 base fb mm mf mv f2 ∧ FInv M N N k.cost f2 (pend f.met v i j) (fun _ _ => False) ∧ Hid (Heap f2.q ∧ f2.q.length ≤ f.q.length + sumL (f.met.take i) + j) ∧ Alike f5 f2 ∧ FStep W5 wx own5 own2 ∧ FQu W5 wx own5) (fun jv _ => st.length - (intOf jv).toNat)
      case atStart => exact ⟨0, own1, f1, rfl, Nat.zero_le _, HF1.out, HI1.out, hq1, hA1, hS1, hU1⟩
      case round =>
        obtain ⟨j, own2, f2, rfl, hj, hF2, hI2, hq2, hA2, hS2, hU2⟩ := hrel
        by_cases hjl : j < st.length
        · have hrow3 := fown_block M2.out.1 (w' := wr) fun q hq => hU2 q _ (M2.out.2 q hq) rfl
          obtain ⟨a2, u2, rfl, hab2, hu2, hca2⟩ := (Rd.of_own hrow3).at_ hjl
          rw [nats_at hjl] at hu2
          injection hu2 with hu2
          subst hu2
          have hmm2 : f2.met = f.met := hA2.met.trans HM5.out
          have hi2 : i < f2.met.length := by rw [hmm2]; exact him
          have hb0 : st[j] ∈ f2.met[i] := by
            have : f2.met[i]? = some st := by rw [hmm2]; exact HMI.out
            rw [List.getElem?_eq_getElem hi2] at this
            injection this with this
            rw [this]
            exact List.getElem_mem _
          obtain ⟨k2, hk2⟩ := (hI2.met i hi2 _).1 hb0
          have hfv : f2.fnd v = some src := by rw [hA2.fnd]; exact HE5.out.2.2
          have hfin := hI2.lt hO hN hk2
          have hsct : src.cost ≤ topC := by rw [hsc.out, ← HCC.out]; exact addC_le _ _
          have hbw : Below w0.heap.size w0 wr := (HS5.out.trans hS2).below hb hw0 fun q r hq => Nat.le_trans hB (H0.out.lt q r hq).1
          have hkk : k.cost ≤ topC := hlt'.2.2
          have HCUR := Lib.hid (show k.cost ≤ addC k2.cost src.cost from Nat.le_trans (addC_ge (b := 1) hkk) (by rw [HCC.out, ← hsc.out]; exact addC_ge' hsct))
          have HDR := Lib.hid (show st.drop j = st[j] :: st.drop (j + 1) from List.drop_eq_getElem_cons hjl)
          have HCALL := Lib.hid (goOn_any hF2 hM hO hbw hB hq2.out.1 (by have := hq2.out.2; omega) (by omega : i ≤ M.L) hfin.2.1 hvK hk2 hfv hfin.2.2 hsct)
          have HI2' := Lib.hid hI2
          have HKV := Lib.hid (And.intro hk2 hfv)
          generalize st[j] = b0 at *
          clear hF2 hI2 hrow3 hmm2 hi2 hb0 hk2 hfv hfin hca hkk
          go_wp2_with fail
          refine HCALL.out.mono ?_
          rintro e W6 ⟨rfl, own3, f3, hP3, hF3, hS3, hU3⟩
          have hI3 := (FInv.goOn hO hN HI2'.out HKV.out.1 HKV.out.2 HCUR.out hP3).weak (P' := pend f.met v i (j + 1)) (X' := fun _ _ => False) (fun x y z kk _ _ _ h9 => by
            obtain ⟨⟨h8, h7⟩, h6⟩ := h9
            refine ⟨h8, h7.imp id fun ⟨h5, h4⟩ => ⟨h5, ?_⟩⟩
            have hg : f.met.getD i [] = st := by simp [List.getD, HMI.out]
            rw [hg] at h4 ⊢
            rw [HDR.out] at h4
            rcases List.mem_cons.1 h4 with h3 | h3
            · exact absurd ⟨h5, h3, h8⟩ h6
            · exact h3) (fun _ _ _ _ h => h)
          have hA3 := hA2.trans (put_alike hP3)
          have hq3 := put_grows hP3
          have HI3 := Lib.hid hI3
          have HF3' := Lib.hid hF3
          have HQ3 := Lib.hid (show Heap f3.q ∧ f3.q.length ≤ f.q.length + sumL (f.met.take i) + (j + 1) from ⟨hq3.2.2.2.2.2.1 hq2.out.1, by have := hq3.2.2.2.2.1; have := hq2.out.2; omega⟩)
          have HS6 := Lib.hid (hS2.trans hS3)
          have HU6 := Lib.hid (hU2.trans hS2 hU3)
          clear hP3 hF3 hS3 hU3 hI3 hq3
          go_wp2
          go_roundw
          case rel => exact ⟨j + 1, own3, f3, by go_num, by omega, HF3'.out, HI3.out, HQ3.out, hA3, HS6.out, HU6.out⟩
          case measure => simp [intOf]; omega
        · obtain rfl : j = st.length := by omega
          have hI4 := hI2.weak (P' := pend f.met v (i + 1) 0) (X' := fun _ _ => False) (fun x y z kk _ h1 _ h9 => by
            obtain ⟨h8, h7⟩ := h9
            have hg : f.met.getD i [] = st := by simp [List.getD, HMI.out]
            rcases h7 with h7 | ⟨h7, h6⟩
            · refine ⟨h8, ?_⟩
              rcases Nat.lt_or_ge (i + 1) x with h5 | h5
              · exact .inl h5
              · right
                obtain rfl : x = i + 1 := by omega
                refine ⟨rfl, ?_⟩
                have hx := (hI2.lt hO hN h1).1
                have hmm2 : f2.met = f.met := hA2.met.trans HM5.out
                have hx2 : i + 1 < f2.met.length := by rw [hI2.ml]; exact hx
                have h4 := (hI2.met (i + 1) hx2 y).2 ⟨kk, h1⟩
                have hx3 : i + 1 < f.met.length := by rw [HML.out]; exact hx
                have : f2.met[i + 1] = f.met[i + 1] := by simp [hmm2]
                rw [this] at h4
                simpa [List.getD, List.getElem?_eq_getElem hx3] using h4
            · rw [hg] at h6
              simp at h6) (fun _ _ _ _ h => h)
          have HI4 := Lib.hid hI4
          have HF4 := Lib.hid hF2
          have HQ4 := Lib.hid (show Heap f2.q ∧ f2.q.length ≤ f.q.length + sumL (f.met.take (i + 1)) from ⟨hq2.out.1, by have := hq2.out.2; rw [hsum.out]; omega⟩)
          clear hI2 hI4 hF2
          go_wp2
          go_roundw
          case rel => exact ⟨i + 1, own2, f2, by go_num, by omega, HF4.out, HI4.out, HQ4.out, hA2, hS2, hU2⟩
          case measure => simp [intOf]; omega
    · obtain rfl : i = N := by omega
      have hI6 := hI1.weak (P' := fun _ _ _ => False) (X' := fun _ _ => False) (fun x y z kk _ h1 _ h9 => by
        have hx := (hI1.lt hO hN h1).1
        rcases h9.2 with h7 | h7 <;> omega) (fun _ _ _ _ h => h)
      have HI6 := Lib.hid hI6
      have HF6 := Lib.hid hF1
      have HQ6 := Lib.hid (show f1.q.length ≤ f.q.length + sumL f.met from by have := hq1.out.2; have := sumL_le f.met i; omega)
      have HMM := Lib.hid (show f1.met = f.met ∧ ∀ n s k, f1.mar n s = some (k, true) ↔ f.mar n s = some (k, true) from ⟨hA1.met.trans HM5.out, fun n s k => by rw [hA1.mar, HE5.out.2.1]⟩)
      clear hI1 hI6 hF1
      go_wp2
      exact bodyPost_end (results_none rfl _ _ _) rfl ⟨rfl, own1, f1, HF6.out, HI6.out, hq1.out.1, HS5.out.trans hS1, HMM.out.1, HMM.out.2, HQ6.out⟩
end Go.Proofs.YtnkelhmjkmeilaaGreatDoor.H
end
section
namespace Go.Proofs.YtnkelhmjkmeilaaGreatDoor.H
open Go.RowKit Go.Maps Go.WideMaps
attribute [local go_sem ↓] Go.wp_at_zero Go.wp_at_succ
theorem nodup_le : ∀ (m : Nat) (l : List Nat), l.Nodup → (∀ x ∈ l, x < m) → l.length ≤ m
  | 0, l, _, h => by
    cases l with
    | nil => simp
    | cons a l => have := h a (by simp); omega
  | m + 1, l, hn, h => by
    have h1 := nodup_le m (l.erase m) (hn.erase m) (fun x hx => by
      have h2 := (List.Nodup.mem_erase_iff hn).1 hx
      have := h x h2.2
      omega)
    by_cases hm : m ∈ l
    · rw [List.length_erase_of_mem hm] at h1
      omega
    · rw [List.erase_of_not_mem hm] at h1
      omega
theorem sum_le : ∀ (m : List (List Nat)) (b : Nat), (∀ x ∈ m, x.length ≤ b) → sumL m ≤ m.length * b
  | [], b, _ => by simp [sumL]
  | x :: m, b, h => by
    have h1 := sum_le m b fun y hy => h y (by simp [hy])
    have h2 := h x (by simp)
    unfold sumL at h1 ⊢
    simp only [List.map_cons, List.sum_cons, List.length_cons]
    rw [Nat.add_mul]
    omega
section
variable {M : Mc} {N J cur : Nat} {f f' : FS} {P : Nat → Nat → Nat → Prop} {X : Nat → Nat → Prop}
theorem FInv.few (hO : M.Ok) (hN : N ≤ M.L + 1) (h : FInv M N J cur f P X) : sumL f.met ≤ 40400 ∧ f.trees.length ≤ 400 := by
  constructor
  · have h1 : sumL f.met ≤ f.met.length * 400 := sum_le _ _ fun x hx => by
      obtain ⟨n, hn, rfl⟩ := List.mem_iff_getElem.1 hx
      have hnN : n < N := by rw [← h.ml]; exact hn
      have := nodup_le (M.sz n) _ (h.mnd n hn) fun s hs => by
        obtain ⟨k, hk⟩ := (h.met n hn s).1 hs
        exact (h.lt hO hN hk).2.1
      have := hO.fewS n (by omega)
      omega
    rw [h.ml] at h1
    have := hO.fewL
    have : N * 400 ≤ 101 * 400 := Nat.mul_le_mul_right _ (by omega)
    omega
  · have := nodup_le M.K _ h.tnd fun v hv => by
      obtain ⟨src, hs⟩ := (h.tr v).1 hv
      obtain ⟨h1, h2, k, h3, _⟩ := h.fn v src hs
      rw [← h2]
      exact hO.out _ _ h1 (h.lt hO hN h3).2.1
    have := hO.fewK
    omega
theorem sumL_add {m : List (List Nat)} {n s : Nat} (hn : n < m.length) : sumL (metAdd m n s) = sumL m + 1 := by
  have hp : ∀ (m : List (List Nat)) (n : Nat) (hn : n < m.length), sumL (m.set n (m[n] ++ [s])) = sumL m + 1 := by
    intro m
    induction m with
    | nil => intro n hn; simp at hn
    | cons x m ih =>
      intro n hn
      cases n with
      | zero => simp [sumL]; omega
      | succ n =>
        have := ih n (by simpa using hn)
        simp [sumL] at this ⊢
        omega
  rw [metAdd, show m.getD n [] = m[n] by simp [List.getD, List.getElem?_eq_getElem hn]]
  exact hp m n hn
end
theorem bool_three (a b : Bool) (h : ¬ (a = false ∧ b = false)) : (a = true ∧ b = true) ∨ (a = true ∧ b = false) ∨ (a = false ∧ b = true) := by
  revert h
  cases a <;> cases b <;> simp
def pot (f : FS) : Nat := 50000 * (40400 - sumL f.met) + f.q.length
def NoRoot (M : Mc) (f : FS) : Prop := ∀ s k, f.mar M.L s = some (k, true) → M.out M.L s ≠ 1
theorem ret_stp {f : Func} {p u : Tmp} (h : f.results = #[.cell p 200, .tmp u]) {a : Act} {w : World} {g : Nat} {v0 v1 v2 v3 v4 x : Value} {R : Ending → World → Prop} (hp : a.tmps.getD p undef = .pointer (some ⟨g, 0, none⟩)) (hx : a.tmps.getD u undef = x) (hd : a.defers = [])
    (hg : w.heap[g]? = some (.cells #[v0, v1, v2, v3, v4] 200 (0, 0))) (hR : R (.returned (.tuple #[.agg #[v0, v1, v2, v3, v4], x])) w) : bodyPost Tryz.prog f R .ret a w := by
  have hc := fun j => Lib.cell_of_heap hg j
  have c0 := hc 0
  have c1 := hc 1
  have c2 := hc 2
  have c3 := hc 3
  have c4 := hc 4
  simp only [List.getElem?_toArray, List.getElem?_cons_zero, List.getElem?_cons_succ] at c0 c1 c2 c3 c4
  refine bodyPost_ret (v := .tuple #[.agg #[v0, v1, v2, v3, v4], x]) ?_ hd hR
  rw [results_cell_tmp h, hp, hx]
  go_simp
theorem stp_stored {w : World} {g : Nat} {a b c d e : Value} {T : TypeId} (h : w.heap[g]? = some (.cells #[a, b, c, d, e] T (0, 0))) (v0 v1 v2 v3 v4 : Value) :
    (((((w.setCell ⟨g, 0, none⟩ v0).setCell ⟨g, 1, none⟩ v1).setCell ⟨g, 2, none⟩ v2).setCell ⟨g, 3, none⟩ v3).setCell ⟨g, 4, none⟩ v4).heap[g]? = some (.cells #[v0, v1, v2, v3, v4] T (0, 0)) := by
  have h0 := heap_setCell_same w g 0 _ _ v0 h
  have h1 := heap_setCell_same _ g 1 _ _ v1 h0
  have h2 := heap_setCell_same _ g 2 _ _ v2 h1
  have h3 := heap_setCell_same _ g 3 _ _ v3 h2
  have h4 := heap_setCell_same _ g 4 _ _ v4 h3
  simpa using h4
theorem FIs.far {w : World} {own : FOwn} {base fb mm mf g : Nat} {mv : Value} {f : FS} (h : FIs w own base fb mm mf mv f) (hg : own g = none) (v0 v1 v2 v3 v4 : Value) :
    FIs (((((w.setCell ⟨g, 0, none⟩ v0).setCell ⟨g, 1, none⟩ v1).setCell ⟨g, 2, none⟩ v2).setCell ⟨g, 3, none⟩ v3).setCell ⟨g, 4, none⟩ v4) own base fb mm mf mv f := by
  refine h.keep (by simp only [size_set]; exact Nat.le_refl _) fun q r hq => ?_
  have hne : q ≠ g := fun e => by rw [e, hg] at hq; cases hq
  rw [heap_set_other (p := ⟨g, 4, none⟩) hne, heap_set_other (p := ⟨g, 3, none⟩) hne, heap_set_other (p := ⟨g, 2, none⟩) hne, heap_set_other (p := ⟨g, 1, none⟩) hne, heap_set_other (p := ⟨g, 0, none⟩) hne]
theorem FStep.far1 {w w' : World} {own own' : FOwn} {p : Addr} (h : FStep w w' own own') (hg : w.heap.size ≤ p.block) (v : Value) : FStep w (w'.setCell p v) own own' :=
  ⟨⟨h.kb.os, h.kb.tape, h.kb.output, by rw [size_set]; exact h.kb.size, fun q hq hn => (heap_set_other (by omega)).trans (h.kb.block q hq hn)⟩, h.le, h.inv⟩
theorem FStep.far {w w' : World} {own own' : FOwn} {g : Nat} (h : FStep w w' own own') (hg : w.heap.size ≤ g) (v0 v1 v2 v3 v4 : Value) :
    FStep w (((((w'.setCell ⟨g, 0, none⟩ v0).setCell ⟨g, 1, none⟩ v1).setCell ⟨g, 2, none⟩ v2).setCell ⟨g, 3, none⟩ v3).setCell ⟨g, 4, none⟩ v4) own own' :=
  ((((h.far1 (p := ⟨g, 0, none⟩) hg v0).far1 (p := ⟨g, 1, none⟩) hg v1).far1 (p := ⟨g, 2, none⟩) hg v2).far1 (p := ⟨g, 3, none⟩) hg v3).far1 (p := ⟨g, 4, none⟩) hg v4
def RunOut (M : Mc) (N : Nat) (f' : FS) (e : Ending) : Prop :=
  (∃ (s : Stp) (fx : FS) (P : Nat → Nat → Nat → Prop) (X : Nat → Nat → Prop), e = .returned (.tuple #[.agg #[.int .i64 (s.num : Int), .int .i64 (s.st : Int), .int .i64 (s.cost : Int), .int .i64 s.frm, .int .i64 s.tree], .bool true]) ∧ FInv M N N s.cost fx P X ∧ fx.mar = f'.mar ∧ fx.fnd = f'.fnd ∧
    f'.mar s.num s.st = some (s, true) ∧ s.num = M.L ∧ M.out M.L s.st = 1 ∧ ∀ s' c, Rd' M N M.L s' c → M.out M.L s' = 1 → s.cost ≤ c) ∨
  (∃ cur, e = .returned (.tuple #[.agg #[.int .i64 0, .int .i64 0, .int .i64 0, .int .i64 0, .int .i64 0], .bool false]) ∧ FInv M N N cur f' (fun _ _ _ => False) (fun _ _ => False) ∧ f'.q = [] ∧ NoRoot M f')
end Go.Proofs.YtnkelhmjkmeilaaGreatDoor.H
end
