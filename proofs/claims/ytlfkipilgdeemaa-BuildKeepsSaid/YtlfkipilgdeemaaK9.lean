/- The package build: end. -/
import Derived.Test.YtlfkipilgdeemaaK8
namespace Go.Proofs.Ytlfkipilgdeemaa
open Go.RowKit Go.Maps Go.WideMaps
attribute [local go_sem ↓] Go.wp_at_zero Go.wp_at_succ

theorem cntN_cons (nm : List UInt8) (k : List Nd) (h : Hd) (fs : Frs) : cntN nm ((k, h) :: fs) = cntN nm fs + if h.1 = nm then 1 else 0 := by
  simp only [cntN, List.countP_cons]
  congr 1
  by_cases e : h.1 = nm <;> simp [e]
theorem cntN_le (nm : List UInt8) (fs : Frs) : cntN nm fs ≤ fs.length := List.countP_le_length
theorem cntF_is (fs : Frs) (nm : List UInt8) : cntF fs (.string ⟨nm.toArray⟩) = if cntN nm fs = 0 then none else some (.int .i64 (cntN nm fs)) := rfl
theorem cntF_top (k : List Nd) (h : Hd) (fs : Frs) : cntF ((k, h) :: fs) (.string ⟨h.1.toArray⟩) = some (.int .i64 ((cntN h.1 fs : Int) + 1)) := by
  rw [cntF_is, cntN_cons, if_pos rfl, if_neg (by omega)]
  rfl
theorem cntF_rest (k : List Nd) (h : Hd) (fs : Frs) (y : Value) (hy : y ≠ .string ⟨h.1.toArray⟩) : cntF fs y = cntF ((k, h) :: fs) y := by
  unfold cntF
  split
  · rename_i s
    have e0 : ¬ h.1 = s.data.toList := fun e => hy (by rw [(show IsStr s h.1 from e.symm).to])
    rw [cntN_cons]
    simp only [e0, if_false, Nat.add_zero]
  · rfl
theorem MI.same {w w' : World} {own : Own} {base bb mm N : Nat} {g : Sto} {outs opens : List Nat} {f : Value → Option Value} (h : MI w own base bb mm N g outs opens f) (hh : w'.heap = w.heap) : MI w' own base bb mm N g outs opens f :=
  h.keep (by rw [hh]; exact Nat.le_refl _) (fun _ _ _ => by rw [hh])
theorem MI.drew {w : World} {own : Own} {base bb mm N : Nat} {g : Sto} {outs opens : List Nat} {f : Value → Option Value} (h : MI w own base bb mm N g outs opens f) : MI w.drew own base bb mm N g outs opens f := h.same rfl
theorem look_cnt {w : World} {b n : Nat} {fs : Frs} (m1 : MapIs Try.prog 9 w b n (cntF fs)) (nm : List UInt8) (hl : nm.length ≤ 1000000) :
    (Instr.lookup 42 (.map (some b)) (.string ⟨nm.toArray⟩) false).run Try.prog w = .ok (.int .i64 (cntN nm fs)) w := by
  have hkey : keyOf Try.prog 9 (.string ⟨nm.toArray⟩) = some (.string nm) := keyOf_string_mk Try.underlying9 (by unfold maxLen; show nm.toArray.size ≤ _; simp; omega)
  have hz : ∀ w, (zeroValue 3).run Try.prog w = .ok (.int .i64 0) w := fun w => by kernel_rfl
  have := m1.look keyS Try.underlying42 (hz _) hkey false
  rw [this, cntF_is]
  by_cases h0 : cntN nm fs = 0
  · rw [if_pos h0, h0]; rfl
  · rw [if_neg h0]; rfl

/-- shut, of the zipper -/
theorem shut_z {w : World} {own : Own} {base bb mm N : Nat} {g : Sto} {outs opens : List Nat} {k : List Nd} {h : Hd} {fs : Frs} {l : List Nd} {hi : Nat} (hM : MI w own base bb mm N g outs opens (cntF ((k, h) :: fs))) (hZ : ZR g outs opens hi ⟨(k, h) :: fs, l⟩) (hN : N ≤ 1000) :
    ∃ bs, Calls Try.prog 31 #[.pointer (some ⟨bb, 0, none⟩)] w fun e w' => e = .returned (.string ⟨h.1.toArray⟩) ∧ Below base w w' ∧ Frm own w w' ∧ MI w' own base bb mm N g outs bs (cntF fs) ∧ ZR g outs bs hi ⟨fs, k ++ [elemN h l]⟩ := by
  have hlen := hZ.1.len
  cases opens with
  | nil => simp at hlen
  | cons b bs =>
    have h0 := hZ.1
    simp only [Sp] at h0
    obtain ⟨⟨ids, e1⟩, _⟩ := h0
    have hc := cntN_le h.1 fs
    have hp := hM.fewP
    simp only [List.length_cons] at hlen hp
    refine ⟨bs, (shut_any hM e1 hN (c := cntN h.1 fs) (by omega) (cntF_top k h fs) (cntF_is fs h.1) (fun y hy => cntF_rest k h fs y hy)).mono ?_⟩
    rintro e w' ⟨rfl, h2, f2, h3⟩
    exact ⟨rfl, h2, f2, h3, hZ.shut⟩

set_option maxHeartbeats 2000000 in
set_option maxRecDepth 100000 in
/-- end -/
theorem end_any {w : World} {base bb N : Nat} {z : Zp} (h : BI w base bb N z) (hN : N ≤ 900) (t : Tk) (A : Option Addr) (c : Nat) (ht : t.name.length ≤ 1000) :
    Calls Try.prog 23 #[.pointer (some ⟨bb, 0, none⟩), tkV t A c] w fun e w' => e = .returned (.tuple #[]) ∧ Below base w w' ∧ BI w' base bb (N + 3) (endZ z t.name) := by
  obtain ⟨own, mm, g, outs, opens, h1, h2⟩ := h
  have hbase := (h1.lt bb _ h1.me)
  have hbs : base ≤ w.heap.size := by omega
  unfold tkV
  generalize t.kind = kd
  generalize t.name = nm at *
  generalize t.attrs.length = na
  generalize t.text = tx at *
  have hnew := heap_alloc_new w (.cells #[.int .i64 kd, .string ⟨nm.toArray⟩, .slice A na c, .string ⟨tx.toArray⟩] 29)
  have b0 : Below w.heap.size w (w.alloc (.cells #[.int .i64 kd, .string ⟨nm.toArray⟩, .slice A na c, .string ⟨tx.toArray⟩] 29)) := (Below.refl _ w).alloc (Nat.le_refl _) _
  have hM := h1.below b0 (Nat.le_refl _)
  have hZ := h2.more b0.size
  obtain ⟨n0, m0⟩ := hM.map
  have hl := look_cnt (m0.drew) nm (by omega)
  have hcl := cntN_le nm z.fr
  have hzl := h2.1.len
  have hzp := h1.fewP
  have hcb : cntN nm z.fr ≤ 1000 := by omega
  obtain ⟨OV, PV, hb, _⟩ := hM.blk
  have k2 := Lib.cell_of_heap hb 2
  simp only [List.getElem?_toArray, List.getElem?_cons_zero, List.getElem?_cons_succ] at k2
  have HB := Lib.hid b0
  have HH := Lib.hid hnew
  have HM := Lib.hid hM
  have HO := Lib.hid (own_fresh h1 (Nat.le_refl w.heap.size))
  have HCN := Lib.hid (show ∃ c, cntN nm z.fr = c from ⟨_, rfl⟩)
  obtain ⟨cn, hcn⟩ := HCN.out
  rw [hcn] at hl hcb
  have HC := Lib.hid hcn
  clear hcn hcl hzl hzp hb h1 h2 hM b0 m0 HCN
  by_cases h0 : cn = 0
  · subst h0
    go_enter Try.func23, Try.ntmps23
    go_wp2
    go_region
    all_goals
      go_wp2
      refine bodyPost_ret (results_none rfl _ _ _) rfl ?_
      rw [show endZ z nm = z by simp only [endZ, HC.out, if_true]]
      exact ⟨rfl, (HB.out.mono hbs).drew, own, mm, g, outs, opens, HM.out.drew.more (by omega), hZ⟩
  · have hq : ((cn : Int) == 0) = false := by rw [beq_eq_false_iff_ne]; omega
    have HQ := Lib.hid h0
    go_enter Try.func23, Try.ntmps23
    go_wp2
    go_region
    all_goals
      go_wp2
      go_loopg [] (z.fr.length) (fun gk wr => ∃ bs fs l, gk = fs.length ∧ MI wr own base bb mm N g outs bs (cntF fs) ∧ ZR g outs bs wr.heap.size ⟨fs, l⟩ ∧ 0 < cntN nm fs ∧ Hid (popTo nm fs l = popTo nm z.fr z.last) ∧ Below base w wr ∧ wr.heap[w.heap.size]? = some (.cells #[.int .i64 kd, .string ⟨nm.toArray⟩, .slice A na c, .string ⟨tx.toArray⟩] 29 (0, 0)) ∧ w.heap.size < wr.heap.size)
      case atStart =>
        exact ⟨opens, z.fr, z.last, rfl, HM.out.drew, hZ, by rw [HC.out]; omega, rfl, (HB.out.mono hbs).drew, hnew, by simp⟩
      case round =>
        obtain ⟨bs, fs, l, rfl, hM, hZr, hcn, hpop, hbw, htk, hws⟩ := hrel
        clear hnew hl k2 hZ h0 hq
        cases fs with
        | nil => simp [cntN] at hcn
        | cons f fs =>
          obtain ⟨k, h⟩ := f
          obtain ⟨bs', hcall⟩ := shut_z hM.drew hZr (by omega)
          have hfr : own w.heap.size = none := HO.out
          have ht1 := Lib.cell_of_heap htk 1
          simp only [List.getElem?_toArray, List.getElem?_cons_zero, List.getElem?_cons_succ] at ht1
          have HZR := Lib.hid hZr
          have HCN := Lib.hid hcn
          have HTK := Lib.hid htk
          clear hZr hcn hM htk
          by_cases hh : h.1 = nm
          · have hq : (h.1 == nm) = true := by simp [hh]
            have HH := Lib.hid hh
            clear hh
            go_wp2
            go_region_with (first
              | (go_at_call 31; refine hcall.mono ?_; rintro e W2 ⟨rfl, B2, F2, M2, Z2⟩; have ht2 := Lib.cell_of_heap ((F2 w.heap.size hfr hws).trans HTK.out) 1; simp only [List.getElem?_toArray, List.getElem?_cons_zero, List.getElem?_cons_succ] at ht2))
            all_goals
              have hBW := (hbw.drew).trans B2
              clear ht2 ht1
              go_wp2
              go_end0
              refine ⟨rfl, hBW, own, mm, g, outs, bs', ?_⟩
              have hend : endZ z nm = ⟨fs, k ++ [elemN h l]⟩ := by
                have hp := hpop.out
                simp only [popTo, HH.out, if_true] at hp
                simp only [endZ, HC.out, HQ.out, if_false]
                exact hp.symm
              rw [hend]
              exact ⟨M2.more (by omega), Z2.more B2.size⟩
          · have hq : (h.1 == nm) = false := by simp [hh]
            have HH := Lib.hid hh
            clear hh
            go_wp2
            go_region_with (first
              | (go_at_call 31; refine hcall.mono ?_; rintro e W2 ⟨rfl, B2, F2, M2, Z2⟩; have HT2 := Lib.hid ((F2 w.heap.size hfr hws).trans HTK.out); have ht2 := Lib.cell_of_heap HT2.out 1; simp only [List.getElem?_toArray, List.getElem?_cons_zero, List.getElem?_cons_succ] at ht2))
            all_goals
              have hBW := (hbw.drew).trans B2
              have hs2 := B2.size
              have hS : w.heap.size < W2.heap.size := Nat.lt_of_lt_of_le hws hs2
              clear ht2 ht1
              go_wp2
              go_roundg (fs.length)
              case measure => simp
              case rel =>
                refine ⟨bs', fs, k ++ [elemN h l], rfl, M2, Z2.more hs2, ?_, ?_, hBW, HT2.out, hS⟩
                · have := HCN.out
                  rw [cntN_cons, if_neg HH.out] at this
                  omega
                · have hp := hpop.out
                  simp only [popTo, HH.out, if_false] at hp
                  exact hp
end Go.Proofs.Ytlfkipilgdeemaa
