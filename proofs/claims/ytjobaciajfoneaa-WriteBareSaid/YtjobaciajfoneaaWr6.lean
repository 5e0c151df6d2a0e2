/- The package write: Plain. -/
import Derived.Test.YtjobaciajfoneaaWr5
namespace Go.Proofs.Ytjobaciajfoneaa
open Go.RowKit

structure Pf where
  A : Option Addr
  c : Nat
  rest : List Nd
def pfCells : List Pf → List Value
  | [] => []
  | f :: S => pfCells S ++ [.slice f.A f.rest.length f.c]
def PfOk (w : World) (B : Nat) (f : Pf) : Prop := Nodes w B f.A f.rest.length f.rest ∧ f.rest.length ≤ f.c
def PsOk (w : World) (B : Nat) (S : List Pf) : Prop := ∀ f ∈ S, PfOk w B f
def pfText : List Pf → List UInt8
  | [] => []
  | f :: S => plainL f.rest ++ pfText S
def pfWt : List Pf → Nat
  | [] => 0
  | f :: S => 1 + wtL f.rest + pfWt S
theorem pfCells_length (S : List Pf) : (pfCells S).length = S.length := by
  induction S with
  | nil => rfl
  | cons f S ih => rw [pfCells, List.length_append, ih, List.length_cons]; simp
theorem PfOk.keep {w w' : World} {B : Nat} {f : Pf} (h : PfOk w B f) (hb : Below B w w') : PfOk w' B f := ⟨h.1.below hb, h.2⟩
theorem PsOk.keep {w w' : World} {B : Nat} {S : List Pf} (h : PsOk w B S) (hb : Below B w w') : PsOk w' B S := fun f hf => (h f hf).keep hb
theorem pfWt_le (S : List Pf) : S.length ≤ pfWt S := by
  induction S with
  | nil => simp
  | cons f S ih => rw [pfWt, List.length_cons]; omega
theorem own_top1 {w : World} {base d g cap : Nat} {e : TypeId} {xs : List Value} {u : Value} (hx : xs.length = d) (h : w.ownsRow base e 1 (.slice (some ⟨g, 0, none⟩) (d + 1) cap) (d + 1) (xs ++ [u])) (v : Value) :
    (w.setCell ⟨g, d, none⟩ v).ownsRow base e 1 (.slice (some ⟨g, 0, none⟩) (d + 1) cap) (d + 1) (xs ++ [v]) := by
  have := (h.stored d v).1
  rw [List.set_append_right _ _ (by omega), show d - xs.length = 0 by omega] at this
  exact this

theorem setCell_size (w : World) (p : Addr) (u : Value) : (w.setCell p u).heap.size = w.heap.size := by simp [World.setCell]
theorem infoNs : (Try.prog.info? 23).map (fun i => (i.zero, i.size, i.bytes)) = some (some (.slice none 0 0), 1, 24) := by kernel_rfl
theorem rowNs : Row Try.prog 51 23 1 24 := by
  obtain ⟨i, hi, hz, h1, h2⟩ := info_parts infoNs
  exact ⟨Try.underlying51, ⟨i, _, hi, hz, h1, h2, rfl⟩, by decide⟩

set_option maxHeartbeats 4000000 in
set_option maxRecDepth 100000 in
/-- write.Plain -/
theorem WPlain_any {w : World} {A : Option Addr} {c : Nat} {l : List Nd} (hN : Nodes w w.heap.size A l.length l) (hc : l.length ≤ c) (hl : (plainL l).length ≤ 1000000) (hwt : wtL l ≤ 1000000) :
    Calls Try.prog 11 #[.slice A l.length c] w fun e w' => e = .returned (.string ⟨(plainL l).toArray⟩) ∧ Below w.heap.size w w' := by
  have ba := (Below.refl w.heap.size w).alloc (Nat.le_refl _) (.cells #[.pointer none, .slice none 0 0] 41)
  have hfr := Bld.fresh w
  have hw1 : w.heap.size < (w.alloc (.cells #[.pointer none, .slice none 0 0] 41)).heap.size := by simp
  go_enter Try.func11, Try.ntmps11
  go_wp2
  go_loopg [4] (1 + wtL l) (fun gk v wr => ∃ (S : List Pf) (acc : List UInt8), gk = pfWt S ∧ pfWt S ≤ 1 + wtL l ∧ wr.ownsRow (w.heap.size + 1) 23 1 v S.length (pfCells S) ∧ PsOk wr w.heap.size S ∧ Bld w.heap.size w.heap.size acc wr ∧ Below w.heap.size w wr ∧ acc ++ pfText S = plainL l ∧ w.heap.size + 1 ≤ wr.heap.size)
  case atStart =>
    have bb := ba.alloc (Nat.le_of_lt hw1) (.cells #[.slice A l.length c] 23)
    refine ⟨[⟨A, c, l⟩], [], by simp [pfWt], by simp [pfWt], ?_, ?_, hfr.alloc _, bb, by simp [pfText], by simp⟩
    · have := World.ownsRow_lit (base := w.heap.size + 1) (e := 23) (size := 1) (w.alloc (.cells #[.pointer none, .slice none 0 0] 41)) #[.slice A l.length c] 1 (by simp) (by unfold maxLen; omega) rfl
      simpa [pfCells] using this
    · intro f hf
      rw [List.mem_singleton] at hf
      subst hf
      exact ⟨hN.below bb, hc⟩
  case round =>
    obtain ⟨S, acc, rfl, hwl, hown, hst, ir, br, htx, hrs⟩ := hrel
    clear ba hfr hw1
    cases S with
    | nil =>
      obtain ⟨A', c', rfl, hc'⟩ := own_shape hown
      rw [pfText, List.append_nil] at htx
      subst htx
      go_wp2_with fail
      refine (BString_any ir (by omega)).mono ?_
      rintro e W3 ⟨u, rfl, hu, _, b3, _⟩
      obtain rfl := hu.to
      clear hu
      go_wp2
      go_ret
      exact ⟨rfl, br.trans b3⟩
    | cons f S =>
      obtain ⟨g, cap, rfl, hg, hgl⟩ := hown.form (by simp)
      simp only [List.length_cons] at hown ⊢
      have hcp : S.length + 1 ≤ cap := by
        obtain ⟨A', c', hv, hc'⟩ := own_shape hown
        injection hv with _ _ hv; omega
      have hx := pfCells_length S
      have c0 := hown.cellAt S.length (by omega)
      have fz := hown.frozenAt S.length
      rw [pfCells, List.getElem?_append_right (by omega), hx, Nat.sub_self, List.getElem?_cons_zero] at c0
      have hf := hst f (by simp)
      have hS : PsOk wr w.heap.size S := fun f' hf' => hst f' (by simp [hf'])
      have hgb : g ≠ w.heap.size := by omega
      have hpw := pfWt_le S
      have hwl' : pfWt S ≤ 1 + wtL l := by rw [pfWt] at hwl; omega
      have hpop := ownsRow_pop (by rw [hx, Nat.mul_one]) hown
      generalize hd : S.length = d at *
      have HX := Lib.hid hx
      have HD := Lib.hid hd
      have HT := Lib.hid htx
      clear hx hd htx
      obtain ⟨A1, c1', rest⟩ := f
      obtain ⟨hf1, hf2⟩ := hf
      simp only [] at c0 hf1 hf2
      have hdd : d ≤ 2000000 := by omega
      cases rest with
      | nil =>
        go_wp2
        go_roundg (pfWt S)
        case measure => simp [pfWt]; omega
        case rel => exact ⟨S, acc, rfl, hwl', HD.out ▸ hpop, hS, ir, br, by rw [← HT.out]; simp [pfText, plainL], hrs⟩
      | cons nd rest =>
        obtain ⟨a, rfl, hna⟩ := hf1.node (k := 0) (by simp) (by simp)
        simp only [Nat.zero_mul, add0, List.getElem_cons_zero] at hna
        have hcut := hf1.cut (k := 1) (cap := c1') (by simp) hf2
        simp only [List.length_cons] at hf2 c0
        have hbs : ∀ u, Below w.heap.size wr (wr.setCell ⟨g, d, none⟩ u) := fun u => (Below.refl _ wr).setCell (p := ⟨g, d, none⟩) (by simp only []; omega) u
        have hW : ∀ u, NodeAt (wr.setCell ⟨g, d, none⟩ u) w.heap.size a nd := fun u => hna.keep (hbs u)
        obtain ⟨cur, hcur⟩ := own_heap hown
        have irW : ∀ u, Bld w.heap.size w.heap.size acc (wr.setCell ⟨g, d, none⟩ u) := fun u => ir.oth (oth_setRow hcur _ _) (by decide) (by decide)
        obtain ⟨Ak, ck, gd, hck, hkd⟩ := hna.kd
        have gk : ∀ u, (wr.setCell ⟨g, d, none⟩ u).cell? a = some (.int .i64 nd.kind) := fun u => (hW u).k
        have gt : ∀ u, (wr.setCell ⟨g, d, none⟩ u).cell? ⟨a.block, a.off + 3, none⟩ = some (.string ⟨nd.text.toArray⟩) := fun u => (hW u).tx
        have gd1 : ∀ u, (wr.setCell ⟨g, d, none⟩ u).cell? ⟨a.block, a.off + 4, none⟩ = some (.slice Ak nd.kids.length ck) := fun u => ((hbs u).cell (p := ⟨a.block, a.off + 4, none⟩) hna.1).trans gd
        have hoW : ∀ A2 c2, (wr.setCell ⟨g, d, none⟩ (.slice A2 rest.length c2)).ownsRow (w.heap.size + 1) 23 1 (.slice (some ⟨g, 0, none⟩) (d + 1) cap) (d + 1) (pfCells (Pf.mk A2 c2 rest :: S)) := by
          intro A2 c2
          exact own_top1 HX.out hown _
        obtain ⟨A2, c2, hcut2, hc2, hif⟩ : ∃ A2 c2, Nodes wr w.heap.size A2 rest.length rest ∧ rest.length ≤ c2 ∧ ((rest = [] ∧ c1' = 1 ∧ A2 = some a ∧ c2 = 0) ∨ (¬ c1' = 1 ∧ A2 = some ⟨a.block, a.off + 5, none⟩ ∧ c2 = c1' - 1)) := by
          by_cases hc1 : c1' = 1
          · rw [if_pos hc1] at hcut
            exact ⟨_, 0, by simpa using hcut, by omega, .inl ⟨List.eq_nil_of_length_eq_zero (by omega), hc1, rfl, rfl⟩⟩
          · rw [if_neg hc1] at hcut
            exact ⟨_, c1' - 1, by simpa [add_pos a 5 (by omega)] using hcut, by omega, .inr ⟨hc1, rfl, rfl⟩⟩
        have hto : ∀ x, (if nd.kind = 2 then nd.text else []) = x → acc ++ x ++ (plainL nd.kids ++ pfText (Pf.mk A2 c2 rest :: S)) = plainL l := by
          intro x hx
          rw [← HT.out, ← hx]; simp only [pfText, plainL, plain1_eq, List.append_assoc]
        have HTO := Lib.hid hto
        have hw1 := wt1_eq nd
        have hwt2 : pfWt (Pf.mk (some a) c1' (nd :: rest) :: S) = 1 + (2 + wtL nd.kids + wtL rest) + pfWt S := by simp only [pfWt, wtL, hw1]
        have HWT := Lib.hid hwt2
        rw [hwt2] at hwl
        obtain ⟨R, hR⟩ : ∃ R, Hid (R = rest) := ⟨rest, rfl⟩
        have hSt : ∀ w', Below w.heap.size wr w' → PsOk w' w.heap.size (⟨Ak, ck, nd.kids⟩ :: Pf.mk A2 c2 rest :: S) := by
          intro w' hw f hf
          rcases List.mem_cons.1 hf with rfl | hf
          · exact ⟨hkd.below hw, hck⟩
          · rcases List.mem_cons.1 hf with rfl | hf
            · exact ⟨hcut2.below hw, hc2⟩
            · exact (hS f hf).keep hw
        have hgB : w.heap.size ≤ g := by omega
        have hcurU : ∀ u, ∃ c fz, (wr.setCell ⟨g, d, none⟩ u).heap[g]? = some (.cells c 23 fz) := fun u => ⟨_, _, heap_setCell_same wr g d _ _ u hcur⟩
        have hsU : ∀ u, w.heap.size + 1 ≤ (wr.setCell ⟨g, d, none⟩ u).heap.size := fun u => by simp [World.setCell]; omega
        clear hto hst hown hpop hf1 hcut hw1 hwt2 gd hcur
        by_cases hk2 : nd.kind = 2
        · have q2 : (nd.kind == 2) = true := by simp [hk2]
          have ho := Lib.hid (show (if nd.kind = 2 then nd.text else []) = nd.text by rw [if_pos hk2])
          have hsz := congrArg List.length (HTO.out _ ho.out)
          simp only [List.length_append] at hsz
          have hsz2 : acc.length + nd.text.length ≤ 1000000 := by omega
          clear hk2 hsz
          rcases hif with ⟨rfl, rfl, rfl, rfl⟩ | ⟨hc1, rfl, rfl⟩
          all_goals
            go_wp2_with fail
            refine (WriteString_any (IsStr.mk nd.text) (irW _) (by omega) (by simp [World.setCell]; omega)).mono ?_
            rintro e W2 ⟨rfl, i2, b2, k2⟩
            have hO := own_oth (hoW _ _) k2 hgb (by decide)
            have BB := (hbs _).trans b2
            have gd2 : W2.cell? ⟨a.block, a.off + 4, none⟩ = some (.slice Ak nd.kids.length ck) := (b2.cell (p := ⟨a.block, a.off + 4, none⟩) hna.1).trans (gd1 _)
            obtain ⟨cur2, hcur2⟩ := own_heap hO
            have hs2 : w.heap.size + 1 ≤ W2.heap.size := by have := b2.size; simp [World.setCell] at this; omega
            have hs3 : w.heap.size + 1 ≤ W2.heap.size := hs2
            clear k2
            go_wp2_with (at_builtin; refine wpList_push rfl _ _ _ rfl (w.heap.size + 1) rowNs (some ⟨g, 0, none⟩) (d + 1) cap _ rfl hO [.slice Ak nd.kids.length ck] _ rfl rfl (by simp [Value.oneCell']) (by unfold maxLen; omega) (by omega) hs3 ?_)
            intro A3 c3 w3 hc3 hown3 hg3
            have i3 := i2.oth ((Lib.OthersKept.refl 23 none W2).grown hg3 (fun g' hg' => by
              simp only [Value.ownBlock, Option.some.injEq] at hg'
              subst hg'
              exact ⟨_, _, hcur2⟩)) (by decide) (by decide)
            have b3 : Below w.heap.size W2 w3 := (Below.refl _ W2).grown hg3 (by omega) (fun g' hg' => by
              simp only [Value.ownBlock, Option.some.injEq] at hg'
              subst hg'
              exact hgB)
            clear gd2 hcur2
            go_wp2
            go_roundg (1 + wtL nd.kids + (1 + wtL R + pfWt S))
            case measure => rw [HWT.out, hR.out]; omega
            case rel => exact ⟨⟨Ak, ck, nd.kids⟩ :: Pf.mk _ _ _ :: S, _, by rw [hR.out]; simp only [pfWt], by simp only [pfWt]; omega, by rw [List.length_cons, List.length_cons, HD.out]; exact hown3, hSt _ (BB.trans b3), i3, (br.trans BB).trans b3, by rw [← HTO.out _ ho.out]; simp only [pfText], by have := hg3.size; omega⟩
        · have q2 : (nd.kind == 2) = false := by simp [hk2]
          have ho := Lib.hid (show (if nd.kind = 2 then nd.text else []) = [] by rw [if_neg hk2])
          clear hk2
          rcases hif with ⟨rfl, rfl, rfl, rfl⟩ | ⟨hc1, rfl, rfl⟩
          all_goals
            go_wp2_with (at_builtin; go_must (refine wpList_push rfl _ _ _ rfl (w.heap.size + 1) rowNs (some ⟨g, 0, none⟩) (d + 1) cap _ (by rfl) (hoW _ _) [.slice Ak nd.kids.length ck] _ (by rw [setCell_size]; rfl) rfl (by simp [Value.oneCell']) (by unfold maxLen; omega) (by omega) (hsU _) ?_))
            intro A3 c3 w3 hc3 hown3 hg3
            have i3 := (irW _).oth ((Lib.OthersKept.refl 23 none _).grown hg3 (fun g' hg' => by
              simp only [Value.ownBlock, Option.some.injEq] at hg'
              subst hg'
              exact hcurU _)) (by decide) (by decide)
            have b3 := (Below.refl w.heap.size _).grown hg3 (Nat.le_of_succ_le (hsU _)) (fun g' hg' => by
              simp only [Value.ownBlock, Option.some.injEq] at hg'
              subst hg'
              exact hgB)
            have BB := (hbs _).trans b3
            have hs3 := Nat.le_trans (hsU _) hg3.size
            clear hcurU
            go_wp2
            go_roundg (1 + wtL nd.kids + (1 + wtL R + pfWt S))
            case measure => rw [HWT.out, hR.out]; omega
            case rel => exact ⟨⟨Ak, ck, nd.kids⟩ :: Pf.mk _ _ _ :: S, _, by rw [hR.out]; simp only [pfWt], by simp only [pfWt]; omega, by rw [List.length_cons, List.length_cons, HD.out]; exact hown3, hSt _ BB, i3, br.trans BB, by rw [← HTO.out _ ho.out, List.append_nil]; simp only [pfText], hs3⟩
end Go.Proofs.Ytjobaciajfoneaa
