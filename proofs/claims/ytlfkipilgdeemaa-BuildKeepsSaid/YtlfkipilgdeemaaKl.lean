/- strainerref03.Same of the same nodes. -/
import Derived.Test.YtlfkipilgdeemaaKwp
import Derived.Deep.DeepCutAuto
import Derived.Laws.StructEq
namespace Go.Proofs.Ytlfkipilgdeemaa
open Go.RowKit Go.Maps Go.WideMaps
attribute [local go_sem ↓] Go.wp_at_zero Go.wp_at_succ

theorem atr_eq (s t : ByteArray) (w : World) : Sem.run Try.prog (Op.equal 35 (.agg #[.string s, .string t]) (.agg #[.string s, .string t])) w = .ok true w := by
  have hs := fun d (x : ByteArray) => run_equalIn_string (P := Try.prog) w d 9 x x Try.underlying9
  have hst : Try.prog.stoodInHeld 35 = false := by kernel_rfl
  show Sem.run Try.prog (Op.equalIn (9998 + 1 + 1) 35 (.agg #[.string s, .string t]) (.agg #[.string s, .string t])) w = .ok true w
  rw [Op.equalIn]
  have p0 : ∀ w, Sem.run Try.prog (part 9 #[.string s, .string t] 0) w = .ok (.string s) w := fun w => by kernel_rfl
  have p1 : ∀ w, Sem.run Try.prog (part 9 #[.string s, .string t] 1) w = .ok (.string t) w := fun w => by kernel_rfl
  have h1 := hs 9998 s
  have h2 := hs 9998 t
  simp [Sem.run_bind, run_underlying Try.underlying35, Result.andThen, hst, p0, p1, h1, h2]
theorem atr_neq (s t : ByteArray) (w : World) : Sem.run Try.prog (binOp BinOp.neq 35 (.agg #[.string s, .string t]) (.agg #[.string s, .string t])) w = .ok (.bool false) w := by
  simp [binOp, atr_eq, Result.andThen]

/-- Same of the same nodes -/
def SameOk (l : List Nd) : Prop := ∀ (w : World) (A B : Option Addr) (c d : Nat), Nodes w w.heap.size A l.length l → Nodes w w.heap.size B l.length l → l.length ≤ c → l.length ≤ d → wgL l ≤ 1000000 →
    Calls Try.prog 10 #[.slice A l.length c, .slice B l.length d] w fun e w' => e = .returned (.bool true) ∧ Below w.heap.size w w'

set_option maxHeartbeats 4000000 in
set_option maxRecDepth 100000 in
theorem Same_step (l : List Nd) (ih : ∀ l', wtL l' < wtL l → SameOk l') : SameOk l := by
  intro w A B c d hA hB hc hd hwg
  have IH := Lib.hid ih
  have hll := wgL_len l
  clear ih
  go_enter Try.func10, Try.ntmps10
  go_wp2
  go_loopw [5] (fun iv wr => ∃ k : Nat, iv = .int .i64 k ∧ k ≤ l.length ∧ Below w.heap.size w wr) (fun iv _ => l.length - (intOf iv).toNat)
  case atStart => exact ⟨0, rfl, Nat.zero_le _, Below.refl _ _⟩
  case round =>
    obtain ⟨k, rfl, hk, hw⟩ := hrel
    by_cases hlt : k < l.length
    · obtain ⟨a, rfl, hna⟩ := (hA.below hw).node hlt hlt
      obtain ⟨b, rfl, hnb⟩ := (hB.below hw).node hlt hlt
      have hat := wgL_at hlt
      have hwl := wtL_at hlt
      have hsw := hw.size
      generalize l[k] = nd at *
      obtain ⟨A2, c2, ga2, hac2, hat2⟩ := hna.ats
      obtain ⟨A3, c3, ga3, hac3, hkd3⟩ := hna.kd
      obtain ⟨A4, c4, gb2, hbc2, hbt2⟩ := hnb.ats
      obtain ⟨A5, c5, gb3, hbc3, hkd5⟩ := hnb.kd
      have ga0 := hna.k
      have ga1 := hna.nm
      have gax := hna.tx
      have gb0 := hnb.k
      have gb1 := hnb.nm
      have gbx := hnb.tx
      have HA := Lib.hid hA
      have HB := Lib.hid hB
      have hab : (a.add (k * 5)).block < wr.heap.size := Nat.lt_of_lt_of_le hna.1 hsw
      have hbb : (b.add (k * 5)).block < wr.heap.size := Nat.lt_of_lt_of_le hnb.1 hsw
      have b1 := (Below.refl wr.heap.size wr).alloc (Nat.le_refl _) (.cells #[.int .i64 nd.kind, .string ⟨nd.name.toArray⟩, .slice A2 nd.attrs.length c2, .string ⟨nd.text.toArray⟩, .slice A3 nd.kids.length c3] 33)
      have b2 := b1.alloc (by simp) (.cells #[.int .i64 nd.kind, .string ⟨nd.name.toArray⟩, .slice A4 nd.attrs.length c4, .string ⟨nd.text.toArray⟩, .slice A5 nd.kids.length c5] 33)
      have cx := heap_alloc_new wr (.cells #[.int .i64 nd.kind, .string ⟨nd.name.toArray⟩, .slice A2 nd.attrs.length c2, .string ⟨nd.text.toArray⟩, .slice A3 nd.kids.length c3] 33)
      have cy := heap_alloc_new (wr.alloc (.cells #[.int .i64 nd.kind, .string ⟨nd.name.toArray⟩, .slice A2 nd.attrs.length c2, .string ⟨nd.text.toArray⟩, .slice A3 nd.kids.length c3] 33)) (.cells #[.int .i64 nd.kind, .string ⟨nd.name.toArray⟩, .slice A4 nd.attrs.length c4, .string ⟨nd.text.toArray⟩, .slice A5 nd.kids.length c5] 33)
      rw [World.size_alloc] at cy
      have cx2 := (Below.heap_alloc (wr.alloc (.cells #[.int .i64 nd.kind, .string ⟨nd.name.toArray⟩, .slice A2 nd.attrs.length c2, .string ⟨nd.text.toArray⟩, .slice A3 nd.kids.length c3] 33)) (.cells #[.int .i64 nd.kind, .string ⟨nd.name.toArray⟩, .slice A4 nd.attrs.length c4, .string ⟨nd.text.toArray⟩, .slice A5 nd.kids.length c5] 33) wr.heap.size (by simp)).trans cx
      have hsz2 : ((wr.alloc (.cells #[.int .i64 nd.kind, .string ⟨nd.name.toArray⟩, .slice A2 nd.attrs.length c2, .string ⟨nd.text.toArray⟩, .slice A3 nd.kids.length c3] 33)).alloc (.cells #[.int .i64 nd.kind, .string ⟨nd.name.toArray⟩, .slice A4 nd.attrs.length c4, .string ⟨nd.text.toArray⟩, .slice A5 nd.kids.length c5] 33)).heap.size = wr.heap.size + 2 := by simp
      clear hA hB hna hnb cx b1
      obtain ⟨wo, rfl⟩ : ∃ wo : World, wo = wr := ⟨_, rfl⟩
      go_upto_region 10 with fail
      generalize ((wo.alloc (.cells #[.int .i64 nd.kind, .string ⟨nd.name.toArray⟩, .slice A2 nd.attrs.length c2, .string ⟨nd.text.toArray⟩, .slice A3 nd.kids.length c3] 33)).alloc (.cells #[.int .i64 nd.kind, .string ⟨nd.name.toArray⟩, .slice A4 nd.attrs.length c4, .string ⟨nd.text.toArray⟩, .slice A5 nd.kids.length c5] 33)) = W2 at *
      have hx : ∀ w', Below W2.heap.size W2 w' → ∀ j, w'.cell? ⟨wo.heap.size, j, none⟩ = (#[.int .i64 nd.kind, .string ⟨nd.name.toArray⟩, .slice A2 nd.attrs.length c2, .string ⟨nd.text.toArray⟩, .slice A3 nd.kids.length c3] : Array Value)[j]? := fun w' h j => (h.cell (p := ⟨wo.heap.size, j, none⟩) (by simp only []; omega)).trans (Lib.cell_of_heap cx2 j)
      have hy : ∀ w', Below W2.heap.size W2 w' → ∀ j, w'.cell? ⟨wo.heap.size + 1, j, none⟩ = (#[.int .i64 nd.kind, .string ⟨nd.name.toArray⟩, .slice A4 nd.attrs.length c4, .string ⟨nd.text.toArray⟩, .slice A5 nd.kids.length c5] : Array Value)[j]? := fun w' h j => (h.cell (p := ⟨wo.heap.size + 1, j, none⟩) (by simp only []; omega)).trans (Lib.cell_of_heap cy j)
      clear cx2 cy ga0 ga1 ga2 ga3 gax gb0 gb1 gb2 gb3 gbx
      go_wp2_with fail
      go_loopw [8] (fun jv wy => ∃ j : Nat, jv = .int .i64 j ∧ j ≤ nd.attrs.length ∧ Below W2.heap.size W2 wy) (fun jv _ => nd.attrs.length - (intOf jv).toNat)
      case atStart => exact ⟨0, rfl, Nat.zero_le _, Below.refl _ _⟩
      case round =>
        obtain ⟨j, rfl, hj, hwy⟩ := hrel
        have hx2 := hx _ hwy 2
        have hx4 := hx _ hwy 4
        have hy2 := hy _ hwy 2
        have hy4 := hy _ hwy 4
        simp only [List.getElem?_toArray, List.getElem?_cons_zero, List.getElem?_cons_succ] at hx2 hx4 hy2 hy4
        by_cases hjl : j < nd.attrs.length
        · obtain ⟨ad, rfl, had, p0, p1⟩ := hat2.cells hjl hjl
          obtain ⟨bd, rfl, hbd, p2, p3⟩ := hbt2.cells hjl hjl
          have hbw : Below wo.heap.size wo wr := b2.trans (hwy.mono (by omega))
          have p0' := (hbw.cell (p := ad.add (j * 2)) (Nat.lt_of_lt_of_le had hsw)).trans p0
          have p1' := (hbw.cell (p := ⟨(ad.add (j * 2)).block, (ad.add (j * 2)).off + 1, none⟩) (Nat.lt_of_lt_of_le had hsw)).trans p1
          have p2' := (hbw.cell (p := bd.add (j * 2)) (Nat.lt_of_lt_of_le hbd hsw)).trans p2
          have p3' := (hbw.cell (p := ⟨(bd.add (j * 2)).block, (bd.add (j * 2)).off + 1, none⟩) (Nat.lt_of_lt_of_le hbd hsw)).trans p3
          have hne := atr_neq
          clear p0 p1 p2 p3 hat2 hbt2 hx hy
          generalize nd.attrs[j] = at_ at *
          go_upto_region 13 with fail
          go_cut [74] (fun s74 wx => s74 = .bool false ∧ Below wr.heap.size wr wx)
          case first =>
            go_region
            all_goals
              go_wp2_with fail
              go_meet
              exact ⟨rfl, below_drewN (Below.refl _ _) _⟩
          case rest =>
            obtain ⟨rfl, b3⟩ := hcut
            go_wp2
            go_roundw
            case rel => exact ⟨j + 1, by go_num, by omega, bt hwy b3⟩
            case measure => simp [intOf]; omega
        · have hbw : Below wo.heap.size wo wr := b2.trans (hwy.mono (by omega))
          have hk3 : Nodes wr wr.heap.size A3 nd.kids.length nd.kids := (hkd3.below (hbw.mono hsw)).more (Nat.le_trans hsw hbw.size)
          have hk5 : Nodes wr wr.heap.size A5 nd.kids.length nd.kids := (hkd5.below (hbw.mono hsw)).more (Nat.le_trans hsw hbw.size)
          have HCALL := Lib.hid (IH.out nd.kids hwl wr A3 A5 c3 c5 hk3 hk5 hac3 hbc3 (by omega))
          clear hkd3 hkd5 hk3 hk5
          go_wp2_with fail
          refine HCALL.out.mono ?_
          rintro e W5 ⟨rfl, b5⟩
          have B5 := hw.trans ((hbw.trans (b5.mono hbw.size)).mono hsw)
          go_wp2
          go_roundw
          case rel => exact ⟨k + 1, by go_num, by omega, B5⟩
          case measure => simp [intOf]; omega
    · go_wp2
      go_ret
      exact ⟨rfl, hw⟩
theorem Same_any (l : List Nd) : SameOk l := by
  suffices h : ∀ k, ∀ l, wtL l ≤ k → SameOk l from h _ l (Nat.le_refl _)
  intro k
  induction k with
  | zero => intro l hl; exact Same_step l (fun l' h => by omega)
  | succ k ih => intro l hl; exact Same_step l (fun l' h => ih l' (by omega))
end Go.Proofs.Ytlfkipilgdeemaa
