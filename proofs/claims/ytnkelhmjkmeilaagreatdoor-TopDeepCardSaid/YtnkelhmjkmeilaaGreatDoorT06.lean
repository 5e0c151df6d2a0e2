/- The package write: tell. The package write: Text, Length. strainerref03: word, attribute, Value. -/
import Derived.Deep.LoopGhost
import Derived.WalkSmall
import Derived.Test.YtnkelhmjkmeilaaGreatDoorT05
import Derived.Test.YtnkelhmjkmeilaaGreatDoorT02
section
namespace Go.Proofs.YtnkelhmjkmeilaaGreatDoor
open Go.RowKit
structure Fr where
  of : Option (Addr × Nd)
  A : Option Addr
  c : Nat
  rest : List Nd
def Fr.cells (f : Fr) : List Value := [.pointer (f.of.map (·.1)), .slice f.A f.rest.length f.c]
def stCells : List Fr → List Value
  | [] => []
  | f :: S => stCells S ++ f.cells
def FrOk (w : World) (B : Nat) (f : Fr) : Prop := Nodes w B f.A f.rest.length f.rest ∧ f.rest.length ≤ f.c ∧ ∀ p, f.of = some p → NodeAt w B p.1 p.2
def StOk (w : World) (B : Nat) (S : List Fr) : Prop := ∀ f ∈ S, FrOk w B f
def rawOf : Option (Addr × Nd) → Bool
  | none => false
  | some p => rawL p.2.name
def clOf : Option (Addr × Nd) → List UInt8
  | none => []
  | some p => clL p.2
def stText : List Fr → List UInt8
  | [] => []
  | f :: S => kidsL (rawOf f.of) f.rest ++ (clOf f.of ++ stText S)
def stWt : List Fr → Nat
  | [] => 0
  | f :: S => 1 + wtL f.rest + stWt S
def Deep : List Fr → Prop
  | [] => True
  | f :: S => (S = [] ∨ ∃ p, f.of = some p ∧ clL p.2 ≠ []) ∧ Deep S
theorem Deep.le (S : List Fr) (h : Deep S) : S.length ≤ (stText S).length + 1 := by
  induction S with
  | nil => simp
  | cons f S ih =>
    obtain ⟨h1, h2⟩ := h
    rw [stText, List.length_cons, List.length_append, List.length_append]
    rcases h1 with rfl | ⟨p, hp, hc⟩
    · simp
    · rw [hp]
      have := ih h2
      have hc' := List.length_pos_iff.2 hc
      simp only [clOf]
      omega
theorem stCells_length (S : List Fr) : (stCells S).length = S.length * 2 := by
  induction S with
  | nil => rfl
  | cons f S ih => rw [stCells, List.length_append, ih, List.length_cons]; simp [Fr.cells]; omega
theorem FrOk.keep {w w' : World} {B : Nat} {f : Fr} (h : FrOk w B f) (hb : Below B w w') : FrOk w' B f := ⟨h.1.below hb, h.2.1, fun p hp => (h.2.2 p hp).keep hb⟩
theorem StOk.keep {w w' : World} {B : Nat} {S : List Fr} (h : StOk w B S) (hb : Below B w w') : StOk w' B S := fun f hf => (h f hf).keep hb
theorem oth_setRow {e : TypeId} {w : World} {g : Nat} {cs : Array Value} {fz : Nat × Nat} (h : w.heap[g]? = some (.cells cs e fz)) (j : Nat) (u : Value) : Lib.OthersKept e none w (w.setCell ⟨g, j, none⟩ u) := by
  intro k o hk _ ho
  rw [Below.heap_setCell _ _ _ _ (fun e1 => by subst e1; rw [h] at hk; exact ho _ _ (Option.some.inj hk).symm)]
  exact hk
theorem own_heap {w : World} {base z n g cap : Nat} {e : TypeId} {xs : List Value} (h : w.ownsRow base e z (.slice (some ⟨g, 0, none⟩) n cap) n xs) : ∃ cur, w.heap[g]? = some (.cells cur e (0, 0)) := by
  rcases h.2 with ⟨h', _⟩ | ⟨g', cap', cur, h', e1, e2, _⟩
  · cases h'
  · injection h' with h' _ h2
    injection h' with h'
    injection h' with h'
    subst h' h2
    exact ⟨cur, e2⟩
theorem own_oth {w w' : World} {base z n g cap b : Nat} {e T : TypeId} {xs : List Value} (h : w.ownsRow base e z (.slice (some ⟨g, 0, none⟩) n cap) n xs) (k : Lib.OthersKept T (some b) w w') (hgb : g ≠ b) (hT : e ≠ T) :
    w'.ownsRow base e z (.slice (some ⟨g, 0, none⟩) n cap) n xs := by
  rcases h.2 with ⟨h', _⟩ | ⟨g', cap', cur, h', e1, e2, e3, e4, e5⟩
  · cases h'
  · injection h' with h' _ h2
    injection h' with h'
    injection h' with h'
    subst h' h2
    exact ⟨h.1, .inr ⟨g, cap, cur, rfl, e1, box_kept k e2 hgb hT, e3, e4, e5⟩⟩
theorem set_top {xs : List Value} {d : Nat} (hx : xs.length = d * 2) (p u v : Value) : (xs ++ [p, u]).set (d * 2 + 1) v = xs ++ [p, v] := by
  rw [List.set_append_right _ _ (by omega), show d * 2 + 1 - xs.length = 1 by omega]
  rfl
theorem own_top {w : World} {base d g cap : Nat} {e : TypeId} {xs : List Value} {p u : Value} (hx : xs.length = d * 2) (h : w.ownsRow base e 2 (.slice (some ⟨g, 0, none⟩) (d + 1) cap) (d + 1) (xs ++ [p, u])) (v : Value) :
    (w.setCell ⟨g, d * 2 + 1, none⟩ v).ownsRow base e 2 (.slice (some ⟨g, 0, none⟩) (d + 1) cap) (d + 1) (xs ++ [p, v]) := by
  have := (h.stored (d * 2 + 1) v).1
  rw [set_top hx] at this
  exact this
theorem infoLv : (Tryz.prog.info? 60).map (fun i => (i.zero, i.size, i.bytes)) = some (some (.agg #[.pointer none, .slice none 0 0]), 2, 32) := by kernel_rfl
theorem rowLv : Row Tryz.prog 61 60 2 32 := by
  obtain ⟨i, hi, hz, h1, h2⟩ := info_parts infoLv
  exact ⟨Tryz.underlying61, ⟨i, _, hi, hz, h1, h2, rfl⟩, by decide⟩
set_option maxHeartbeats 4000000 in
set_option maxRecDepth 100000 in
theorem tell_any {K : FuncId} {B b : Nat} {Inv : List UInt8 → World → Prop} (HP : Put K B b Inv) {w : World} {A : Option Addr} {c : Nat} {l : List Nd} {L : List UInt8} (hB : B ≤ w.heap.size) (hb : b < w.heap.size) (hN : Nodes w B A l.length l) (hc : l.length ≤ c) (hi : Inv L w)
    (hl : L.length + (textL l).length ≤ 1000000) :
    Calls Tryz.prog 15 #[.slice A l.length c, .func (.func K) #[] #[.pointer (some ⟨b, 0, none⟩)]] w fun e w' => e = .returned (.tuple #[]) ∧ Inv (L ++ textL l) w' ∧ Below B w w' := by
  have hE := HP.enter
  go_enter Tryz.func15, Tryz.ntmps15
  go_wp2
  go_loopg [4] (1 + wtL l) (fun gk v wr => ∃ (S : List Fr) (acc : List UInt8), gk = stWt S ∧ wr.ownsRow w.heap.size 60 2 v S.length (stCells S) ∧ StOk wr B S ∧ Inv acc wr ∧ Below B w wr ∧ acc ++ stText S = L ++ textL l ∧ w.heap.size ≤ wr.heap.size ∧ Deep S)
  case atStart =>
    refine ⟨[⟨none, A, c, l⟩], L, by simp [stWt], ?_, ?_, HP.keep _ _ _ hi (oth_of_below ((Below.refl _ w).alloc (Nat.le_refl _) _)), (Below.refl B w).alloc hB _, by simp [stText, rawOf, clOf, textL], by simp, ⟨.inl rfl, trivial⟩⟩
    · exact World.ownsRow_lit w #[.pointer none, .slice A l.length c] 1 (Nat.le_refl _) (by unfold maxLen; omega) rfl
    · intro f hf
      rw [List.mem_singleton] at hf
      subst hf
      exact ⟨hN.below ((Below.refl B w).alloc hB _), hc, fun p hp => by cases hp⟩
  case round =>
    obtain ⟨S, acc, rfl, hown, hst, ir, br, htx, hrs, hdp⟩ := hrel
    cases S with
    | nil =>
      obtain ⟨A', c', rfl, hc'⟩ := own_shape hown
      rw [stText, List.append_nil] at htx
      subst htx
      go_wp2
      go_end0
      exact ⟨rfl, ir, br⟩
    | cons f S =>
      obtain ⟨g, cap, rfl, hg, hgl⟩ := hown.form (by simp)
      simp only [List.length_cons] at hown ⊢
      have hcp : S.length + 1 ≤ cap := by
        obtain ⟨A', c', hv, hc'⟩ := own_shape hown
        injection hv with _ _ hv; omega
      have hcm : cap ≤ maxLen := by
        rcases hown.2 with ⟨h', _⟩ | ⟨g', cap', cur, h', _, _, _, hcm, _⟩
        · cases h'
        · injection h' with _ _ h'; omega
      unfold maxLen at hcm
      have hx := stCells_length S
      have c0 := hown.cellAt (S.length * 2) (by omega)
      have c1 := hown.cellAt (S.length * 2 + 1) (by omega)
      rw [stCells, ← hx, List.getElem?_append_right (by omega)] at c0
      rw [stCells, List.getElem?_append_right (by omega)] at c1
      simp only [Nat.sub_self, Fr.cells, List.getElem?_cons_zero] at c0
      rw [show S.length * 2 + 1 - (stCells S).length = 1 by omega] at c1
      simp only [Fr.cells, List.getElem?_cons_succ, List.getElem?_cons_zero] at c1
      rw [hx] at c0
      have hf := hst f (by simp)
      have hS : StOk wr B S := fun f' hf' => hst f' (by simp [hf'])
      generalize hd : S.length = d at *
      have HX := Lib.hid hx
      have HD := Lib.hid hd
      have HT := Lib.hid htx
      clear hx hd htx
      obtain ⟨of, A1, c1', rest⟩ := f
      obtain ⟨hf1, hf2, hf3⟩ := hf
      simp only [] at c0 c1 hf1 hf2 hf3
      have hgb : g ≠ b := by omega
      have hpop := ownsRow_pop (by rw [HX.out]) hown
      cases rest with
      | nil =>
        cases of with
        | none =>
          simp only [Option.map_none] at c0
          go_wp2
          go_roundg (stWt S)
          case measure => simp [stWt]; omega
          case rel => exact ⟨S, acc, rfl, HD.out ▸ hpop, hS, ir, br, by rw [← HT.out]; simp [stText, clOf, kidsL], hrs, hdp.2⟩
        | some p =>
          obtain ⟨a, n⟩ := p
          have hn := hf3 (a, n) rfl
          have htl : acc ++ (clL n ++ stText S) = L ++ textL l := by rw [← HT.out]; simp [stText, clOf, kidsL]
          have hle := congrArg List.length htl
          simp only [List.length_append] at hle
          have hle2 : acc.length + (clL n).length ≤ 100000000 := by omega
          clear hle
          have HTL := Lib.hid htl
          clear htl
          simp only [Option.map_some] at c0
          go_wp2_with fail
          refine (end_any HP hn ir hle2).mono ?_
          rintro e W2 ⟨rfl, i2, b2, k2⟩
          have hrow : W2.ownsRow w.heap.size 60 2 (.slice (some ⟨g, 0, none⟩) d cap) d (stCells S) := own_oth hpop k2 hgb (by decide)
          go_wp2
          go_roundg (stWt S)
          case measure => simp [stWt]; omega
          case rel => exact ⟨S, acc ++ clL n, rfl, HD.out ▸ hrow, hS.keep b2, i2, br.trans b2, by rw [← HTL.out, List.append_assoc], by have := b2.size; omega, hdp.2⟩
      | cons nd rest =>
        obtain ⟨a, rfl, hna⟩ := hf1.node (k := 0) (by simp) (by simp)
        simp only [Nat.zero_mul, add0, List.getElem_cons_zero] at hna
        have hcut := hf1.cut (k := 1) (cap := c1') (by simp) hf2
        simp only [List.length_cons] at hf2 c1
        have hW : ∀ u, NodeAt (wr.setCell ⟨g, d * 2 + 1, none⟩ u) B a nd := fun u => hna.keep ((Below.refl B wr).setCell (by show B ≤ g; omega) u)
        have gk : ∀ u, (wr.setCell ⟨g, d * 2 + 1, none⟩ u).cell? a = some (.int .i64 nd.kind) := fun u => (hW u).k
        have gt : ∀ u, (wr.setCell ⟨g, d * 2 + 1, none⟩ u).cell? ⟨a.block, a.off + 3, none⟩ = some (.string ⟨nd.text.toArray⟩) := fun u => (hW u).tx
        obtain ⟨cur, hcur⟩ := own_heap hown
        have irW : ∀ u, Inv acc (wr.setCell ⟨g, d * 2 + 1, none⟩ u) := fun u => HP.keep _ _ _ ir (oth_setRow hcur _ _)
        have brW : ∀ u, Below B w (wr.setCell ⟨g, d * 2 + 1, none⟩ u) := fun u => br.setCell (by show B ≤ g; omega) u
        have hoW : ∀ A2 c2, (wr.setCell ⟨g, d * 2 + 1, none⟩ (.slice A2 rest.length c2)).ownsRow w.heap.size 60 2 (.slice (some ⟨g, 0, none⟩) (d + 1) cap) (Fr.mk of A2 c2 rest :: S).length (stCells (Fr.mk of A2 c2 rest :: S)) := by
          intro A2 c2
          rw [List.length_cons, HD.out]
          exact own_top HX.out hown _
        have hoK : ∀ A2 c2 w', Lib.OthersKept 5 (some b) (wr.setCell ⟨g, d * 2 + 1, none⟩ (.slice A2 rest.length c2)) w' → w'.ownsRow w.heap.size 60 2 (.slice (some ⟨g, 0, none⟩) (d + 1) cap) (Fr.mk of A2 c2 rest :: S).length (stCells (Fr.mk of A2 c2 rest :: S)) := by
          intro A2 c2 w' hk
          rw [List.length_cons, HD.out]
          exact own_oth (own_top HX.out hown _) hk hgb (by decide)
        have hdl := hdp.le
        have hlen := congrArg List.length HT.out
        simp only [List.length_append] at hlen
        have hdd : d ≤ 1000000 := by rw [← HD.out]; simp only [List.length_cons] at hdl; omega
        have fz := hown.frozenAt (d * 2 + 1)
        clear hdl hlen hst hown hpop hf1
        obtain ⟨A2, c2, hcut2, hc2, hif⟩ : ∃ A2 c2, Nodes wr B A2 rest.length rest ∧ rest.length ≤ c2 ∧ ((rest = [] ∧ c1' = 1 ∧ A2 = some a ∧ c2 = 0) ∨ (¬ c1' = 1 ∧ A2 = some ⟨a.block, a.off + 5, none⟩ ∧ c2 = c1' - 1)) := by
          by_cases hc1 : c1' = 1
          · rw [if_pos hc1] at hcut
            exact ⟨_, 0, by simpa using hcut, by omega, .inl ⟨List.eq_nil_of_length_eq_zero (by omega), hc1, rfl, rfl⟩⟩
          · rw [if_neg hc1] at hcut
            exact ⟨_, c1' - 1, by simpa [add_pos a 5 (by omega)] using hcut, by omega, .inr ⟨hc1, rfl, rfl⟩⟩
        clear hcut
        have hfr : ∀ w', Below B wr w' → FrOk w' B ⟨of, A2, c2, rest⟩ := fun w' hw => ⟨hcut2.below hw, hc2, fun p hp => (hf3 p hp).keep hw⟩
        have hdp2 : Deep (⟨of, A2, c2, rest⟩ :: S) := hdp
        have hto : ∀ x, oneL (rawOf of) nd = x → acc ++ x ++ stText (⟨of, A2, c2, rest⟩ :: S) = L ++ textL l := by
          intro x hx
          rw [← HT.out, ← hx]; simp only [stText, kidsL, List.append_assoc]
        have hsz : ∀ x, oneL (rawOf of) nd = x → acc.length + x.length ≤ 1000000 := by
          intro x hx
          have := congrArg List.length (hto x hx)
          simp only [List.length_append] at this
          omega
        have HSZ := Lib.hid hsz
        clear hsz
        have HTO := Lib.hid hto
        have hwt : stWt (⟨of, A2, c2, rest⟩ :: S) + wt1 nd = stWt (⟨of, some a, c1', nd :: rest⟩ :: S) := by simp only [stWt, wtL]; omega
        have hw1 := wt1_eq nd
        have HWT := Lib.hid hwt
        clear hto hwt
        obtain ⟨R, hR⟩ : ∃ R, Hid (R = rest) := ⟨rest, rfl⟩
        have hbs : ∀ u, Below B wr (wr.setCell ⟨g, d * 2 + 1, none⟩ u) := fun u => (Below.refl B wr).setCell (p := ⟨g, d * 2 + 1, none⟩) (by simp only []; omega) u
        have hSt : ∀ w', Below B wr w' → StOk w' B (Fr.mk of A2 c2 rest :: S) := by
          intro w' hw f hf
          rcases List.mem_cons.1 hf with rfl | hf
          · exact hfr _ hw
          · exact (hS f hf).keep hw
        clear hfr
        by_cases hk1 : nd.kind = 1
        · have q1 : (nd.kind == 1) = true := by simp [hk1]
          have hoD : ∀ A2 c2 w', Lib.OthersKept 5 (some b) (wr.setCell ⟨g, d * 2 + 1, none⟩ (.slice A2 rest.length c2)) w' → w'.ownsRow w.heap.size 60 2 (.slice (some ⟨g, 0, none⟩) (d + 1) cap) (d + 1) (stCells (Fr.mk of A2 c2 rest :: S)) := by
            intro A2 c2 w' hk
            have := hoK A2 c2 w' hk
            rwa [List.length_cons, HD.out] at this
          have hsb : ∀ u, B ≤ (wr.setCell ⟨g, d * 2 + 1, none⟩ u).heap.size ∧ b < (wr.setCell ⟨g, d * 2 + 1, none⟩ u).heap.size := by
            intro u; simp [World.setCell]; omega
          have hgB : B ≤ g := by omega
          cases hv : voidL nd.name with
          | true =>
            have ho := Lib.hid (oneL_void (rawOf of) nd hk1 hv)
            have HV := Lib.hid hv
            have hsz := HSZ.out _ ho.out
            have HW1 := Lib.hid hw1
            clear hw1 hk1 hv
            rcases hif with ⟨rfl, rfl, rfl, rfl⟩ | ⟨hc1, rfl, rfl⟩
            all_goals
              go_wp2_with fail
              refine (begin_any HP (hsb _).1 (hsb _).2 (hW _) (irW _) hsz).mono ?_
              rintro e W2 ⟨rfl, i2, b2, k2⟩
              have n2 := (hna.keep ((hbs _).trans b2)).nm
              go_wp2_with fail
              refine (dVoid_any nd.name _).mono ?_
              rintro e W1 ⟨rfl, rfl⟩
              rw [HV.out]
              have hO := hoK _ _ _ k2
              clear k2 n2
              go_wp2
              go_roundg (1 + wtL R + stWt S)
              case measure => rw [← HWT.out, HW1.out, hR.out]; simp only [stWt]; omega
              case rel => exact ⟨Fr.mk of _ _ _ :: S, _, by rw [hR.out]; simp only [stWt], hO, hSt _ ((hbs _).trans b2), i2, (brW _).trans b2, by rw [← HTO.out _ ho.out], ((brW _).trans b2).size, hdp2⟩
          | false =>
            have ho := Lib.hid (oneL_elem (rawOf of) nd hk1 hv)
            obtain ⟨Ak, ck, gd, hck, hkd⟩ := hna.kd
            have HV := Lib.hid hv
            have hsz := HSZ.out _ ho.out
            have hcl : clL nd ≠ [] := by simp [clL, hk1, hv]
            simp only [List.length_append] at hsz
            have hsz2 : acc.length + (opL nd).length ≤ 1000000 := by omega
            have HW1 := Lib.hid hw1
            clear hw1 hk1 hv hsz
            rcases hif with ⟨rfl, rfl, rfl, rfl⟩ | ⟨hc1, rfl, rfl⟩
            all_goals
              go_wp2_with fail
              refine (begin_any HP (hsb _).1 (hsb _).2 (hW _) (irW _) hsz2).mono ?_
              rintro e W2 ⟨rfl, i2, b2, k2⟩
              have BB := (hbs _).trans b2
              have n2 := (hna.keep BB).nm
              go_wp2_with fail
              refine (dVoid_any nd.name _).mono ?_
              rintro e W1 ⟨rfl, rfl⟩
              rw [HV.out]
              have hO := hoD _ _ _ k2
              have gd2 : W2.cell? ⟨a.block, a.off + 4, none⟩ = some (.slice Ak nd.kids.length ck) := (BB.cell (p := ⟨a.block, a.off + 4, none⟩) hna.1).trans gd
              obtain ⟨cur2, hcur2⟩ := own_heap hO
              have hsW := ((brW _).trans b2).size
              clear k2 n2
              go_wp2_with (at_builtin; refine wpList_push rfl _ _ _ rfl w.heap.size rowLv (some ⟨g, 0, none⟩) (d + 1) cap _ rfl hO [.pointer (some a), .slice Ak nd.kids.length ck] _ rfl rfl (by simp [Value.oneCell']) (by unfold maxLen; omega) (by omega) hsW ?_)
              intro A3 c3 w3 hc3 hown3 hg3
              have i3 := HP.keep _ _ _ i2 ((Lib.OthersKept.refl _ none W2).grown hg3 (fun g' hg' => by
                simp only [Value.ownBlock, Option.some.injEq] at hg'
                subst hg'
                exact ⟨_, _, hcur2⟩))
              have b3 : Below B W2 w3 := (Below.refl B W2).grown hg3 (by omega) (fun g' hg' => by
                simp only [Value.ownBlock, Option.some.injEq] at hg'
                subst hg'
                exact hgB)
              clear gd2 hcur2
              go_wp2
              go_roundg (1 + wtL nd.kids + (1 + wtL R + stWt S))
              case measure => rw [← HWT.out, HW1.out, hR.out]; simp only [stWt]; omega
              case rel => exact ⟨⟨some (a, nd), Ak, ck, nd.kids⟩ :: Fr.mk of _ _ _ :: S, _, by rw [hR.out]; simp only [stWt], by rw [List.length_cons, List.length_cons, HD.out]; exact hown3, by
                intro f hf
                rcases List.mem_cons.1 hf with rfl | hf
                · exact ⟨hkd.below (BB.trans b3), hck, fun p hp => by cases hp; exact hna.keep (BB.trans b3)⟩
                · exact hSt _ (BB.trans b3) f hf, i3, ((brW _).trans b2).trans b3, by rw [← HTO.out _ ho.out]; simp only [stText, rawOf, clOf, List.append_assoc], by have := hg3.size; omega, ⟨.inr ⟨_, rfl, hcl⟩, hdp2⟩⟩
        · by_cases hk2 : nd.kind = 2
          · have q1 : (nd.kind == 1) = false := by simp [hk1]
            have q2 : (nd.kind == 2) = true := by simp [hk2]
            have HW1 := Lib.hid hw1
            clear hw1
            have HOT := Lib.hid (oneL_text nd hk2)
            have HOR := Lib.hid (oneL_raw nd hk2)
            clear hk1 hk2
            cases of with
            | none =>
              simp only [Option.map_none] at c0
              have hsz := HSZ.out _ HOT.out
              have hel := (esc_length false nd.text).1
              rcases hif with ⟨rfl, rfl, rfl, rfl⟩ | ⟨hc1, rfl, rfl⟩
              all_goals
                go_wp2_with fail
                refine (Escape_any (IsStr.mk nd.text) (by omega) false).mono ?_
                rintro e W2 ⟨t, rfl, ht, b2⟩
                obtain rfl := ht.to
                clear ht
                have i2 := HP.keep _ _ _ (irW _) (oth_of_below b2)
                go_wp2_with fail
                refine (HP.call _ _ _ i2 (by omega)).mono ?_
                rintro e W3 ⟨rfl, i3, b3, k3⟩
                have BB := (b2.mono (by simp [World.setCell]; omega)).trans b3
                have hO := hoK _ _ _ ((oth_of_below b2).trans k3)
                clear b2 b3 k3 i2
                go_wp2
                go_roundg (1 + wtL R + stWt S)
                case measure => rw [← HWT.out, HW1.out, hR.out]; simp only [stWt]; omega
                case rel => exact ⟨Fr.mk none _ _ _ :: S, _, by rw [hR.out]; simp only [stWt], hO, hSt _ ((hbs _).trans BB), i3, (brW _).trans BB, by rw [← HTO.out _ HOT.out], ((brW _).trans BB).size, hdp2⟩
            | some p =>
              obtain ⟨pa, pn⟩ := p
              simp only [Option.map_some] at c0
              have hpn : ∀ u, (wr.setCell ⟨g, d * 2 + 1, none⟩ u).cell? ⟨pa.block, pa.off + 1, none⟩ = some (.string ⟨pn.name.toArray⟩) := fun u => ((hf3 (pa, pn) rfl).keep (hbs u)).nm
              cases hraw : rawL pn.name with
              | false =>
                have hof : oneL (rawOf (some (pa, pn))) nd = esc false nd.text := by simp only [rawOf, hraw]; exact HOT.out
                have HOF := Lib.hid hof
                have HRW := Lib.hid hraw
                clear hof hraw
                have hsz := HSZ.out _ HOF.out
                have hel := (esc_length false nd.text).1
                rcases hif with ⟨rfl, rfl, rfl, rfl⟩ | ⟨hc1, rfl, rfl⟩
                all_goals
                  go_wp2_with fail
                  refine (dRaw_any pn.name _).mono ?_
                  rintro e W1 ⟨rfl, rfl⟩
                  rw [HRW.out]
                  go_wp2_with fail
                  refine (Escape_any (IsStr.mk nd.text) (by omega) false).mono ?_
                  rintro e W2 ⟨t, rfl, ht, b2⟩
                  obtain rfl := ht.to
                  clear ht
                  have i2 := HP.keep _ _ _ (irW _) (oth_of_below b2)
                  go_wp2_with fail
                  refine (HP.call _ _ _ i2 (by omega)).mono ?_
                  rintro e W3 ⟨rfl, i3, b3, k3⟩
                  have BB := (b2.mono (by simp [World.setCell]; omega)).trans b3
                  have hO := hoK _ _ _ ((oth_of_below b2).trans k3)
                  clear b2 b3 k3 i2
                  go_wp2
                  go_roundg (1 + wtL R + stWt S)
                  case measure => rw [← HWT.out, HW1.out, hR.out]; simp only [stWt]; omega
                  case rel => exact ⟨Fr.mk (some (pa, pn)) _ _ _ :: S, _, by rw [hR.out]; simp only [stWt], hO, hSt _ ((hbs _).trans BB), i3, (brW _).trans BB, by rw [← HTO.out _ HOF.out], ((brW _).trans BB).size, hdp2⟩
              | true =>
                have hof : oneL (rawOf (some (pa, pn))) nd = nd.text := by simp only [rawOf, hraw]; exact HOR.out
                have HOF := Lib.hid hof
                have HRW := Lib.hid hraw
                clear hof hraw
                have hsz := HSZ.out _ HOF.out
                rcases hif with ⟨rfl, rfl, rfl, rfl⟩ | ⟨hc1, rfl, rfl⟩
                all_goals
                  go_wp2_with fail
                  refine (dRaw_any pn.name _).mono ?_
                  rintro e W1 ⟨rfl, rfl⟩
                  rw [HRW.out]
                  go_wp2_with fail
                  refine (HP.call _ _ _ (irW _) (by omega)).mono ?_
                  rintro e W3 ⟨rfl, i3, b3, k3⟩
                  have hO := hoK _ _ _ k3
                  clear k3
                  go_wp2
                  go_roundg (1 + wtL R + stWt S)
                  case measure => rw [← HWT.out, HW1.out, hR.out]; simp only [stWt]; omega
                  case rel => exact ⟨Fr.mk (some (pa, pn)) _ _ _ :: S, _, by rw [hR.out]; simp only [stWt], hO, hSt _ ((hbs _).trans b3), i3, (brW _).trans b3, by rw [← HTO.out _ HOF.out], ((brW _).trans b3).size, hdp2⟩
          · by_cases hk3 : nd.kind = 3
            · have q1 : (nd.kind == 1) = false := by simp [hk1]
              have q2 : (nd.kind == 2) = false := by simp [hk2]
              have q3 : (nd.kind == 3) = true := by simp [hk3]
              have hsz := HSZ.out _ (oneL_comment (rawOf of) nd hk3)
              simp only [List.length_append, List.length_cons, List.length_nil] at hsz
              have ho := Lib.hid (oneL_comment (rawOf of) nd hk3)
              clear hk1 hk2 hk3
              have HW1 := Lib.hid hw1
              clear hw1
              rcases hif with ⟨rfl, rfl, rfl, rfl⟩ | ⟨hc1, rfl, rfl⟩
              all_goals
                go_wp2_with fail
                refine (HP.call _ _ _ (irW _) (by simp only [List.length_cons, List.length_nil]; omega)).mono ?_
                rintro e W2 ⟨rfl, i2, b2, k2⟩
                have t2 := (hna.keep ((hbs _).trans b2)).tx
                go_wp2_with fail
                refine (HP.call _ _ _ i2 (by simp only [List.length_append, List.length_cons, List.length_nil]; omega)).mono ?_
                rintro e W3 ⟨rfl, i3, b3, k3⟩
                go_wp2_with fail
                refine (HP.call _ _ _ i3 (by simp only [List.length_append, List.length_cons, List.length_nil]; omega)).mono ?_
                rintro e W4 ⟨rfl, i4, b4, k4⟩
                have BB := (b2.trans b3).trans b4
                have hO := hoK _ _ _ ((k2.trans k3).trans k4)
                clear t2 b2 b3 b4 k2 k3 k4 i2 i3
                go_wp2
                go_roundg (1 + wtL R + stWt S)
                case measure => rw [← HWT.out, HW1.out, hR.out]; simp only [stWt]; omega
                case rel => exact ⟨Fr.mk of _ _ _ :: S, _, by rw [hR.out]; simp only [stWt], hO, hSt _ ((hbs _).trans BB), i4, (brW _).trans BB, by rw [← HTO.out _ ho.out]; simp only [List.append_assoc], ((brW _).trans BB).size, hdp2⟩
            · have q1 : (nd.kind == 1) = false := by simp [hk1]
              have q2 : (nd.kind == 2) = false := by simp [hk2]
              have q3 : (nd.kind == 3) = false := by simp [hk3]
              have ho := Lib.hid (oneL_other (rawOf of) nd hk1 hk2 hk3)
              clear hk1 hk2 hk3
              have HW1 := Lib.hid hw1
              clear hw1
              rcases hif with ⟨rfl, rfl, rfl, rfl⟩ | ⟨hc1, rfl, rfl⟩
              all_goals
                go_wp2
                go_roundg (1 + wtL R + stWt S)
                case measure => rw [← HWT.out, HW1.out, hR.out]; simp only [stWt]; omega
                case rel => exact ⟨Fr.mk of _ _ _ :: S, acc, by rw [hR.out]; simp only [stWt], hoW _ _, hSt _ (hbs _), irW _, brW _, by rw [← HTO.out _ ho.out, List.append_nil], by simp [World.setCell]; omega, hdp2⟩
end Go.Proofs.YtnkelhmjkmeilaaGreatDoor
end
section
namespace Go.Proofs.YtnkelhmjkmeilaaGreatDoor
open Go.RowKit
theorem Bld.oth {B b : Nat} {l : List UInt8} {w w' : World} {e : TypeId} (h : Bld B b l w) (k : Lib.OthersKept e none w w') (h1 : 39 ≠ e) (h2 : 5 ≠ e) : Bld B b l w' := by
  have key : ∀ p, Lib.BuilderAtF 39 5 B b p (Lib.byteCells l) w → Lib.BuilderAtF 39 5 B b p (Lib.byteCells l) w' := by
    rintro p ⟨hB, v, hb, hown, hne⟩
    refine ⟨hB, v, k b _ hb (by simp) (fun c fz e1 => by injection e1 with _ e2; exact h1 e2), ⟨hown.1, ?_⟩, hne⟩
    rcases hown.2 with h0 | ⟨g, cap, cur, fz, hv, e1, e2, e3⟩
    · exact .inl h0
    · exact .inr ⟨g, cap, cur, fz, hv, e1, k g _ e2 (by simp) (fun c fz e1 => by injection e1 with _ e2; exact h2 e2), e3⟩
  rcases h with h | h
  · exact .inl (key _ h)
  · exact .inr (key _ h)
theorem enters {P : Program} {f : FuncId} {fn : Func} {c : Code} (hf : P.funcs[f]? = some fn) (hname : (fn.name == "runtime.NumGoroutine") = false) (hb : fn.body = some c) (args : Array Value) (w : World) :
    Sem.run P (callFunc f args) w = .ok (.enter f args) w := by
  have h1 : fn.name ≠ "runtime.NumGoroutine" := by simpa using hname
  simp [callFunc, hf, h1, hb]
set_option maxRecDepth 100000 in
theorem putText (B : Nat) : Put 16 B B (fun l w => Bld B B l w ∧ B ≤ w.heap.size) where
  call := by
    rintro l m w ⟨hi, hB⟩ hl
    go_enter Tryz.func16, Tryz.ntmps16
    go_wp2_with fail
    refine (WriteString_any (IsStr.mk m) hi (by omega) hB).mono ?_
    rintro e w' ⟨rfl, h1, h2, h3⟩
    go_wp2
    go_end0
    exact ⟨rfl, ⟨h1, Nat.le_trans hB h2.size⟩, h2, h3⟩
  enter := fun args w => enters Tryz.func16 (by kernel_rfl) rfl args w
  keep := by
    rintro l w w' ⟨hi, hB⟩ k
    refine ⟨hi.oth k (by decide) (by decide), ?_⟩
    have hb : B < w.heap.size := by
      rcases hi with ⟨_, v, hb, _⟩ | ⟨_, v, hb, _⟩
      · exact (Array.getElem?_eq_some_iff.1 hb).1
      · exact (Array.getElem?_eq_some_iff.1 hb).1
    have hb' : B < w'.heap.size := by
      rcases hi.oth k (by decide) (by decide) with ⟨_, v, hb, _⟩ | ⟨_, v, hb, _⟩
      · exact (Array.getElem?_eq_some_iff.1 hb).1
      · exact (Array.getElem?_eq_some_iff.1 hb).1
    omega
set_option maxHeartbeats 1000000 in
set_option maxRecDepth 100000 in
theorem WText_any {w : World} {A : Option Addr} {c : Nat} {l : List Nd} (hN : Nodes w w.heap.size A l.length l) (hc : l.length ≤ c) (hl : (textL l).length ≤ 1000000) :
    Calls Tryz.prog 9 #[.slice A l.length c] w fun e w' => e = .returned (.string ⟨(textL l).toArray⟩) ∧ Below w.heap.size w w' := by
  go_enter Tryz.func9, Tryz.ntmps9
  go_wp2_with fail
  have ba := (Below.refl w.heap.size w).alloc (Nat.le_refl _) (.cells #[.pointer none, .slice none 0 0] 39)
  refine (tell_any (putText w.heap.size) (by simp) (by simp) (hN.below ba) hc ⟨Bld.fresh w, by simp⟩ (by simpa using hl)).mono ?_
  rintro e W1 ⟨rfl, ⟨i1, s1⟩, b1⟩
  have B1 := ba.trans b1
  clear ba b1
  go_wp2_with fail
  refine (BString_any i1 s1).mono ?_
  rintro e W3 ⟨u, rfl, hu, _, b3, _⟩
  rw [List.nil_append] at hu
  obtain rfl := hu.to
  clear hu
  go_wp2
  go_ret
  exact ⟨rfl, B1.trans b3⟩
end Go.Proofs.YtnkelhmjkmeilaaGreatDoor
end
section
namespace Go.Proofs.YtnkelhmjkmeilaaGreatDoor
open Go.RowKit
def valL : List Atr → List UInt8 → Option (List UInt8)
  | [], _ => none
  | a :: l, nm => if a.1 == nm then some a.2 else valL l nm
end Go.Proofs.YtnkelhmjkmeilaaGreatDoor
end
