/- strainerref03: few, Cut, Few; plain: nodes, few of all. -/
import Derived.Test.YtlfkipilgdeemaaWp
import Derived.Test.YtlfkipilgdeemaaOw
import Derived.Deep.RegionHeld3
import Derived.Deep.DrawnRows
namespace Go.Proofs.Ytlfkipilgdeemaa
open Go.RowKit
attribute [local go_sem ↓] Go.wp_at_zero Go.wp_at_succ

def cutA (a : Atr) : Atr := (a.1.take 30, a.2.take 30)
mutual
def cut1 : Nd → Nat → Nd × Nat
  | .mk k nm ats tx kids, m => (.mk k (nm.take 30) ((ats.take 5).map cutA) (tx.take 30) (cutL kids m).1, (cutL kids m).2)
def cutL : List Nd → Nat → List Nd × Nat
  | [], m => ([], m)
  | n :: l, m => if 0 < m then ((cut1 n (m - 1)).1 :: (cutL l (cut1 n (m - 1)).2).1, (cutL l (cut1 n (m - 1)).2).2) else ([], m)
end
theorem cutL_nil (m : Nat) : cutL [] m = ([], m) := by simp only [cutL]
theorem cutL_zero (l : List Nd) : cutL l 0 = ([], 0) := by cases l <;> simp [cutL]
theorem cutL_cons (n : Nd) (l : List Nd) {m : Nat} (h : 0 < m) : cutL (n :: l) m = ((cut1 n (m - 1)).1 :: (cutL l (cut1 n (m - 1)).2).1, (cutL l (cut1 n (m - 1)).2).2) := by simp [cutL, h]
theorem cut1_eq (n : Nd) (m : Nat) : cut1 n m = (.mk n.kind (n.name.take 30) ((n.attrs.take 5).map cutA) (n.text.take 30) (cutL n.kids m).1, (cutL n.kids m).2) := by
  cases n; simp only [cut1, Nd.kind, Nd.name, Nd.attrs, Nd.text, Nd.kids]
mutual
theorem cut1_le : ∀ (n : Nd) (m : Nat), (cut1 n m).2 ≤ m
  | .mk _ _ _ _ kids, m => by simp only [cut1]; exact cutL_le kids m
theorem cutL_le : ∀ (l : List Nd) (m : Nat), (cutL l m).2 ≤ m
  | [], m => by simp [cutL]
  | n :: l, m => by
    simp only [cutL]
    split
    · have h1 := cut1_le n (m - 1)
      have h2 := cutL_le l (cut1 n (m - 1)).2
      simp only []
      omega
    · exact Nat.le_refl _
end

/-- a pointer to a node -/
def NodeAt (w : World) (B : Nat) (a : Addr) (n : Nd) : Prop := a.block < B ∧ ∃ A1 n1 c1 A2 n2 c2, 
    w.cell? a = some (.int .i64 n.kind) ∧ w.cell? (a.add 1) = some (sv n.name) ∧ w.cell? (a.add 2) = some (.slice A1 n1 c1) ∧
    w.cell? (a.add 3) = some (sv n.text) ∧ w.cell? (a.add 4) = some (.slice A2 n2 c2) ∧ n1 ≤ c1 ∧ Atrs w B A1 n1 n.attrs ∧ n2 ≤ c2 ∧ Nodes w B A2 n2 n.kids
theorem add0 (a : Addr) : a.add 0 = a := by unfold Addr.add; rw [if_pos rfl]
theorem Nodes.node {w : World} {B n : Nat} {A : Option Addr} {l : List Nd} (h : Nodes w B A n l) {k : Nat} (hk : k < n) (hk' : k < l.length) : ∃ a, A = some a ∧ NodeAt w B (a.add (k * 5)) l[k] := by
  obtain ⟨a, A1, n1, c1, A2, n2, c2, e, hb, h0, h1, h2, h3, h4, h5⟩ := h.at_ hk hk'
  refine ⟨a, e, by rw [block_add]; exact hb, A1, n1, c1, A2, n2, c2, h0, ?_, ?_, ?_, ?_, h5⟩ <;> rw [add_add] <;> assumption
theorem NodeAt.keep {w w' : World} {B : Nat} {a : Addr} {n : Nd} (h : NodeAt w B a n) (hb : Below B w w') : NodeAt w' B a n := by
  obtain ⟨h0, A1, n1, c1, A2, n2, c2, g0, g1, g2, g3, g4, g5, g6, g7, g8⟩ := h
  have hc : ∀ j, w'.cell? (a.add j) = w.cell? (a.add j) := fun j => hb.cell (by rw [block_add]; exact h0)
  exact ⟨h0, A1, n1, c1, A2, n2, c2, by rw [hb.cell h0]; exact g0, by rw [hc]; exact g1, by rw [hc]; exact g2, by rw [hc]; exact g3, by rw [hc]; exact g4, g5, g6.below hb, g7, g8.below hb⟩

section
variable {w w' : World} {B : Nat} {a : Addr} {n : Nd}
theorem NodeAt.k (h : NodeAt w B a n) : w.cell? a = some (.int .i64 n.kind) := by
  obtain ⟨h0, A1, n1, c1, A2, n2, c2, g0, _⟩ := h
  exact g0
theorem NodeAt.nm (h : NodeAt w B a n) : w.cell? ⟨a.block, a.off + 1, none⟩ = some (.string ⟨n.name.toArray⟩) := by
  obtain ⟨h0, A1, n1, c1, A2, n2, c2, g0, g1, _⟩ := h
  rw [add_pos a 1 (by omega)] at g1
  exact g1
theorem NodeAt.ats (h : NodeAt w B a n) : ∃ A c, w.cell? ⟨a.block, a.off + 2, none⟩ = some (.slice A n.attrs.length c) ∧ n.attrs.length ≤ c ∧ Atrs w B A n.attrs.length n.attrs := by
  obtain ⟨h0, A1, n1, c1, A2, n2, c2, g0, g1, g2, g3, g4, g5, g6, _⟩ := h
  rw [add_pos a 2 (by omega)] at g2
  have := g6.len
  subst this
  exact ⟨_, _, g2, g5, g6⟩
theorem NodeAt.tx (h : NodeAt w B a n) : w.cell? ⟨a.block, a.off + 3, none⟩ = some (.string ⟨n.text.toArray⟩) := by
  obtain ⟨h0, A1, n1, c1, A2, n2, c2, g0, g1, g2, g3, _⟩ := h
  rw [add_pos a 3 (by omega)] at g3
  exact g3
theorem NodeAt.kd (h : NodeAt w B a n) : ∃ A c, w.cell? ⟨a.block, a.off + 4, none⟩ = some (.slice A n.kids.length c) ∧ n.kids.length ≤ c ∧ Nodes w B A n.kids.length n.kids := by
  obtain ⟨h0, A1, n1, c1, A2, n2, c2, g0, g1, g2, g3, g4, g5, g6, g7, g8⟩ := h
  rw [add_pos a 4 (by omega)] at g4
  have := g8.len
  subst this
  exact ⟨_, _, g4, g7, g8⟩
end

theorem Atrs.cells {w : World} {B n : Nat} {A : Option Addr} {l : List Atr} (h : Atrs w B A n l) {k : Nat} (hk : k < n) (hk' : k < l.length) :
    ∃ a, A = some a ∧ (a.add (k * 2)).block < B ∧ w.cell? (a.add (k * 2)) = some (.string ⟨l[k].1.toArray⟩) ∧ w.cell? ⟨(a.add (k * 2)).block, (a.add (k * 2)).off + 1, none⟩ = some (.string ⟨l[k].2.toArray⟩) := by
  obtain ⟨a, e, hb, h1, h2⟩ := h.at_ hk hk'
  refine ⟨a, e, by rw [block_add]; exact hb, h1, ?_⟩
  rw [← add_add, add_pos (a.add (k * 2)) 1 (by omega)] at h2
  exact h2

theorem few3_any (l : List UInt8) (w : World) : Calls Try.prog 29 #[.string ⟨l.toArray⟩] w fun e w' => e = .returned (.string ⟨(l.take 30).toArray⟩) ∧ w' = w := by
  by_cases h : 30 < l.length
  · have ht := (s_take (IsStr.mk l) 30).to
    have HT := Lib.hid ht
    clear ht
    go_enter Try.func29, Try.ntmps29
    go_wp2
    go_ret
    exact ⟨ret_str HT.out, rfl⟩
  · have HT := Lib.hid (show l.take 30 = l by rw [List.take_of_length_le (by omega)])
    go_enter Try.func29, Try.ntmps29
    go_wp2
    go_ret
    exact ⟨by rw [HT.out]; rfl, rfl⟩

theorem wtL_at {l : List Nd} {k : Nat} (hk : k < l.length) : wtL l[k].kids < wtL l := by
  induction l generalizing k with
  | nil => simp at hk
  | cons n l ih =>
    simp only [wtL]
    match k with
    | 0 => have := wt1_eq n; simp only [List.getElem_cons_zero]; omega
    | k + 1 => have := ih (k := k) (by simpa using hk); simp only [List.getElem_cons_succ]; omega

theorem Atrs.still {w w' : World} {B B' n : Nat} {A : Option Addr} {l : List Atr} (h : Atrs w B A n l) (hb : Below B' w w') (hB : B ≤ B') : Atrs w' B A n l := Rd.below (B := B) h (hb.mono hB)
/-- what Cut does with nodes -/
def CutOk (l : List Nd) : Prop := ∀ (w : World) (A : Option Addr) (c : Nat) (m : Nat), Nodes w w.heap.size A l.length l → l.length ≤ c → m ≤ 40 →
    Calls Try.prog 21 #[.slice A l.length c, .int .i64 m] w fun e w' => ∃ A' c', e = .returned (.tuple #[.slice A' (cutL l m).1.length c', .int .i64 (cutL l m).2]) ∧ (cutL l m).1.length ≤ c' ∧
      NodesP w' (fun b => w.heap.size ≤ b ∧ b < w'.heap.size) A' (cutL l m).1.length (cutL l m).1 ∧ Below w.heap.size w w'

set_option maxHeartbeats 8000000 in
set_option maxRecDepth 100000 in
/-- strainerref03.Cut -/
theorem Cut_step (l : List Nd) (ih : ∀ l', wtL l' < wtL l → CutOk l') : CutOk l := by
    intro w A c m hN hc hm
    have IH := Lib.hid ih
    clear ih
    go_enter Try.func21, Try.ntmps21
    go_wp2
    go_loopw [1, 6, 7] (fun most v i wr => ∃ (k : Nat) (D : List Nd) (m' : Nat) (xs : List Value) (A1 : Option Addr) (c1 : Nat), most = .int .i64 m' ∧ v = .slice A1 D.length c1 ∧ i = .int .i64 k ∧ k ≤ l.length ∧ k = D.length ∧ D.length + m' ≤ 40 ∧
      D ++ (cutL (l.drop k) m').1 = (cutL l m).1 ∧ (cutL (l.drop k) m').2 = (cutL l m).2 ∧ wr.ownsRow w.heap.size 33 5 (.slice A1 D.length c1) D.length xs ∧ NsIsP wr (Apart w.heap.size wr (.slice A1 D.length c1)) D xs ∧ Below w.heap.size w wr ∧ D.length ≤ c1)
      (fun _ _ i _ => l.length - (intOf i).toNat)
    case atStart => exact ⟨0, [], m, [], none, 0, rfl, rfl, rfl, Nat.zero_le _, rfl, by simpa using hm, by simp, by simp, World.ownsRow_nil _ _ _ _, NsIsP.nil _ _, Below.refl _ _, Nat.le_refl _⟩
    case round =>
      obtain ⟨k, D, m', xs, A1, c1, rfl, rfl, rfl, hk, hkD, hDm, hD1, hD2, hown, hns, hb, hc1⟩ := hrel
      have HD1 := Lib.hid hD1
      have HD2 := Lib.hid hD2
      clear hD1 hD2
      have hkb : k ≤ 40 := by omega
      have HKD := Lib.hid hkD
      clear hkD
      have hsz := hb.size
      by_cases hlt : k < l.length ∧ 0 < m'
      · obtain ⟨hlt, hmp⟩ := hlt
        obtain ⟨a, rfl, hna⟩ := (hN.below hb).node hlt hlt
        have hwt := wtL_at hlt
        obtain ⟨m1, rfl⟩ : ∃ m1, m' = m1 + 1 := ⟨m' - 1, by omega⟩
        have HDR := Lib.hid (show cutL (l.drop k) (m1 + 1) = ((cut1 l[k] m1).1 :: (cutL (l.drop (k + 1)) (cut1 l[k] m1).2).1, (cutL (l.drop (k + 1)) (cut1 l[k] m1).2).2) by rw [List.drop_eq_getElem_cons hlt, cutL_cons _ _ (by omega)]; rfl)
        generalize l[k] = nd at *
        have gk := hna.k
        have gn := hna.nm
        have gt := hna.tx
        obtain ⟨A2, c2, ga, hac, hat⟩ := hna.ats
        obtain ⟨A3, c3, gd, hdc, hkd⟩ := hna.kd
        go_wp2_with fail
        refine (few3_any _ _).mono ?_
        rintro e w' ⟨rfl, rfl⟩
        go_wp2_with fail
        refine (few3_any _ _).mono ?_
        rintro e w' ⟨rfl, rfl⟩
        have b0 := (Below.refl wr.heap.size wr).alloc (Nat.le_refl _) (.cells #[.int .i64 nd.kind, sv (nd.name.take 30), .slice A2 nd.attrs.length c2, sv (nd.text.take 30), .slice A3 nd.kids.length c3] 33)
        have h0 := heap_alloc_new wr (.cells #[.int .i64 nd.kind, sv (nd.name.take 30), .slice A2 nd.attrs.length c2, sv (nd.text.take 30), .slice A3 nd.kids.length c3] 33)
        have s0 : (wr.alloc (.cells #[.int .i64 nd.kind, sv (nd.name.take 30), .slice A2 nd.attrs.length c2, sv (nd.text.take 30), .slice A3 nd.kids.length c3] 33)).heap.size = wr.heap.size + 1 := by simp
        go_wp2_with fail
        refine (IH.out nd.kids hwt _ A3 c3 m1 ((hkd.below (b0.mono hsz)).more (by rw [s0]; omega)) hdc (by omega)).mono ?_
        rintro e W1 ⟨A4, c4, rfl, hc4, hn4, b4⟩
        rw [World.size_alloc] at hn4 b4
        have h1 : W1.heap[wr.heap.size]? = some (.cells #[.int .i64 nd.kind, .string ⟨(nd.name.take 30).toArray⟩, .slice A2 nd.attrs.length c2, .string ⟨(nd.text.take 30).toArray⟩, .slice A3 nd.kids.length c3] 33 (0, 0)) := (b4.block _ (by omega)).trans h0
        have B1 : Below wr.heap.size wr W1 := b0.trans (b4.mono (by omega))
        have s1 := b4.size
        rw [World.size_alloc] at s1
        have hcut := cut1_eq nd m1
        have HCUT := Lib.hid hcut
        clear hcut b0 h0 b4 s0 gk gn gt ga gd
        generalize (cutL nd.kids m1).1 = kd' at *
        generalize hm2 : (cutL nd.kids m1).2 = m2 at *
        have cH := fun j => Lib.cell_of_heap h1 j
        have c4' := cH 4
        have f4 := Lib.frozen_of_heap h1 4
        simp only [List.getElem?_toArray, List.getElem?_cons_zero, List.getElem?_cons_succ] at c4'
        have HM2 := Lib.hid hm2
        clear hm2 cH
        go_wp2
        have h2 : (W1.setCell ⟨wr.heap.size, 4, none⟩ (.slice A4 kd'.length c4)).heap[wr.heap.size]? = some (.cells #[.int .i64 nd.kind, .string ⟨(nd.name.take 30).toArray⟩, .slice A2 nd.attrs.length c2, .string ⟨(nd.text.take 30).toArray⟩, .slice A4 kd'.length c4] 33 (0, 0)) := by
          rw [heap_setCell_same W1 wr.heap.size 4 _ _ _ h1]; simp
        have B2 : Below wr.heap.size wr (W1.setCell ⟨wr.heap.size, 4, none⟩ (.slice A4 kd'.length c4)) := B1.setCell (p := ⟨wr.heap.size, 4, none⟩) (Nat.le_refl _) _
        have s2 : (W1.setCell ⟨wr.heap.size, 4, none⟩ (.slice A4 kd'.length c4)).heap.size = W1.heap.size := by simp [World.setCell]
        have hn2 : NodesP (W1.setCell ⟨wr.heap.size, 4, none⟩ (.slice A4 kd'.length c4)) (fun b => wr.heap.size + 1 ≤ b ∧ b < W1.heap.size) A4 kd'.length kd' :=
          hn4.keep (fun p hp => World.cell?_setCell_other _ _ _ _ (fun e => by subst e; simp only [] at hp; omega))
        generalize W1.setCell ⟨wr.heap.size, 4, none⟩ (.slice A4 kd'.length c4) = W2 at *
        rw [← s2] at hn2 s1
        clear hn4 h1 c4' f4 B1 s2 W1
        have hat2 := hat.still B2 hsz
        obtain ⟨wo, rfl⟩ : ∃ wo : World, wo = wr := ⟨_, rfl⟩
        go_loopw [9, 10] (fun v i wx => ∃ (j : Nat) (A5 : Option Addr) (c5 : Nat), v = .slice A5 j c5 ∧ i = .int .i64 j ∧ j ≤ nd.attrs.length ∧ j ≤ 5 ∧ j ≤ c5 ∧ wx.ownsRow W2.heap.size 35 2 (.slice A5 j c5) j (atrCells ((nd.attrs.take j).map cutA)) ∧ Below W2.heap.size W2 wx)
          (fun _ i _ => nd.attrs.length - (intOf i).toNat)
        case atStart => exact ⟨0, none, 0, rfl, rfl, Nat.zero_le _, Nat.zero_le _, Nat.zero_le _, World.ownsRow_nil _ _ _ _, Below.refl _ _⟩
        case round =>
          obtain ⟨j, A5, c5, rfl, rfl, hj, hj5, hjc, ho5, b5⟩ := hrel
          have hx2 := (b5.block wo.heap.size (by omega)).trans h2
          have cH := fun i => Lib.cell_of_heap hx2 i
          have ca := cH 2
          simp only [List.getElem?_toArray, List.getElem?_cons_zero, List.getElem?_cons_succ] at ca
          have sx := b5.size
          by_cases hjl : j < nd.attrs.length ∧ j < 5
          · obtain ⟨hjl, hj4⟩ := hjl
            obtain ⟨ad, rfl, hab, hc0, hc1'⟩ := (hat2.still b5 (by omega)).cells hjl hjl
            have hnx := Lib.hid (show (nd.attrs.take (j + 1)).map cutA = (nd.attrs.take j).map cutA ++ [cutA nd.attrs[j]] by rw [List.take_succ_eq_append_getElem hjl, List.map_append]; rfl)
            generalize nd.attrs[j] = at_ at *
            clear cH
            have hfar : ∀ b, b < W2.heap.size → some b ≠ (Value.slice A5 j c5).ownBlock := fun b hb e => by have := own_ge ho5 _ e.symm; omega
            go_wp2
            go_region_held3 (fun w' => w'.cell? ⟨wo.heap.size, 2, none⟩ = some (.slice (some ad) nd.attrs.length c2) ∧ w'.cell? (ad.add (j * 2)) = some (.string ⟨at_.1.toArray⟩) ∧ w'.cell? ⟨(ad.add (j * 2)).block, (ad.add (j * 2)).off + 1, none⟩ = some (.string ⟨at_.2.toArray⟩))
              (first
                | go_keep
                | (go_split_ands
                   refine ⟨?_, ?_, ?_⟩
                   · (rw [hg6.cell_far _ (by simp; omega) (hfar _ (by simp only []; omega))]; assumption)
                   · (rw [hg6.cell_far _ (by simp; omega) (hfar _ (by omega))]; assumption)
                   · (rw [hg6.cell_far _ (by simp; omega) (hfar _ (by simp only []; omega))]; assumption)))
              (first
                | (go_at_call 29; refine (few3_any _ _).mono ?_; rintro e w' ⟨rfl, rfl⟩)
                | (refine step_push (by rfl) _ _ _ (by rfl) W2.heap.size rowAt A5 j c5 _ (by rfl) ((ho5.alloc _).drew) wr.heap.size 1 _ (by rfl) (heap_alloc_new wr _) (by rfl) (by simp [Value.oneCell']) (by unfold maxLen; omega) (by omega) (by simp; omega) ?_; intro A6 c6 w6 hc6 ho6 hg6 hat6))
            have b6 : Below W2.heap.size W2 w6 := ((b5.alloc sx _).drew).grown hg6 (by simp; omega) (own_ge ho5)
            have ho6' : w6.ownsRow W2.heap.size 35 2 (.slice A6 (j + 1) c6) (j + 1) (atrCells ((nd.attrs.take (j + 1)).map cutA)) := by
              rw [hnx.out, atrCells_append]; exact ho6
            clear ho6 hg6 hat6 hfar ho5 hx2 ca hc0 hc1'
            go_wp2
            go_roundw
            case rel => exact ⟨j + 1, A6, c6, rfl, by go_num, by omega, by omega, hc6, ho6', b6⟩
            case measure => simp [intOf]; omega
          · have hatt : (nd.attrs.take j).map cutA = (nd.attrs.take 5).map cutA := by
              by_cases h5 : j = 5
              · rw [h5]
              · rw [List.take_of_length_le (by omega : nd.attrs.length ≤ j), List.take_of_length_le (by omega : nd.attrs.length ≤ 5)]
            rw [hatt] at ho5
            have c0 := cH 0
            have c1' := cH 1
            have c3' := cH 3
            have c4' := cH 4
            have f2 := Lib.frozen_of_heap hx2 2
            simp only [List.getElem?_toArray, List.getElem?_cons_zero, List.getElem?_cons_succ] at c0 c1' c3' c4'
            have bz : ∀ u, Below wo.heap.size wo (wr.setCell ⟨wo.heap.size, 2, none⟩ u) := fun u => (B2.trans (b5.mono (by omega))).setCell (p := ⟨wo.heap.size, 2, none⟩) (Nat.le_refl _) u
            have hz : ∀ u, (wr.setCell ⟨wo.heap.size, 2, none⟩ u).heap.size = wr.heap.size := fun u => by simp [World.setCell]
            have hvo : ∀ b, (Value.slice A1 D.length c1).ownBlock = some b → b < wo.heap.size := fun b hb => (hown.lt b hb).2
            have hNx : ∀ u, NIsP (wr.setCell ⟨wo.heap.size, 2, none⟩ u) (Apart w.heap.size (wr.setCell ⟨wo.heap.size, 2, none⟩ u) (.slice A1 D.length c1)) (cut1 nd m1).1
                [.int .i64 nd.kind, sv (nd.name.take 30), .slice A5 j c5, sv (nd.text.take 30), .slice A4 kd'.length c4] := by
              intro u
              have hfar : ∀ p : Addr, wo.heap.size + 1 ≤ p.block → (wr.setCell ⟨wo.heap.size, 2, none⟩ u).cell? p = wr.cell? p := fun p hp => World.cell?_setCell_other _ _ _ _ (fun e => by subst e; simp only [] at hp; omega)
              rw [HCUT.out]
              refine NIsP.mk' hjc ?_ hc4 ?_
              · have hr := RdP.of_own ho5
                refine (hr.keep (fun p hp => hfar p (by omega))).more (fun b hb => ⟨by omega, by rw [hz]; omega, fun e => by have := hvo b e; omega⟩)
              · refine ((hn2.keep (fun p hp => b5.cell hp.2)).keep (fun p hp => hfar p hp.1)).more (fun b hb => ⟨by omega, by rw [hz]; omega, fun e => by have := hvo b e; omega⟩)
            have hDx : ∀ u, NsIsP (wr.setCell ⟨wo.heap.size, 2, none⟩ u) (Apart w.heap.size (wr.setCell ⟨wo.heap.size, 2, none⟩ u) (.slice A1 D.length c1)) (D ++ [(cut1 nd m1).1]) (xs ++ [.int .i64 nd.kind, sv (nd.name.take 30), .slice A5 j c5, sv (nd.text.take 30), .slice A4 kd'.length c4]) :=
              fun u => (below_nodes hns (bz u)).append (NsIsP.single (hNx u))
            have hoz : ∀ u, (wr.setCell ⟨wo.heap.size, 2, none⟩ u).ownsRow w.heap.size 33 5 (.slice A1 D.length c1) D.length xs := fun u => own_below hown (bz u) (Nat.le_refl _)
            have hsU : ∀ u, w.heap.size ≤ (wr.setCell ⟨wo.heap.size, 2, none⟩ u).heap.size := fun u => by rw [hz]; omega
            have HD3 := Lib.hid (show (D ++ [(cut1 nd m1).1]) ++ (cutL (l.drop (k + 1)) m2).1 = (cutL l m).1 by rw [← HD1.out, HDR.out, HCUT.out, List.append_assoc]; rfl)
            have HD4 := Lib.hid (show (cutL (l.drop (k + 1)) m2).2 = (cutL l m).2 by rw [← HD2.out, HDR.out, HCUT.out])
            have hm2 : m2 ≤ m1 := by rw [← HM2.out]; exact cutL_le _ _
            have HBZ := Lib.hid bz
            clear hatt hNx hns hown cH hx2 bz hz hn2 hkd hat hat2
            by_cases hj1 : j < nd.attrs.length
            · have hj5' : ¬ j < 5 := by omega
              clear hjl
              go_wp2_with (at_builtin; go_must (refine wpList_push_at rfl _ _ _ rfl w.heap.size rowNd A1 D.length c1 xs rfl (hoz _) [.int .i64 nd.kind, sv (nd.name.take 30), .slice A5 j c5, sv (nd.text.take 30), .slice A4 kd'.length c4] _ (by rw [size_setCell]; rfl) rfl (by simp [Value.oneCell', sv]) (by unfold maxLen; omega) (by omega) (hsU _) ?_))
              intro A6 c6 w6 hc6 ho6 hg6 hat6
              have hn6 := push_nodes (v' := .slice A6 (D.length + 1) c6) (hDx _) hg6 (fun g hg => by rw [size_setCell]; exact hat6 g hg)
              have b6 : Below w.heap.size w w6 := (hb.trans ((HBZ.out _).mono hsz)).grown hg6 (hsU _) (own_ge (hoz (.slice A5 j c5)))
              clear hg6 hat6 hDx hoz hsU c0 c1' c3' c4' f2 ho5 b5 B2
              go_wp2
              go_roundw
              case rel => exact ⟨k + 1, D ++ [(cut1 nd m1).1], m2, _, A6, c6, rfl, by simp, by go_num, by omega, by have := HKD.out; simp; omega, by simp; omega, HD3.out, HD4.out, by simpa using ho6, by simpa using hn6, b6, by simpa using hc6⟩
              case measure => simp [intOf]; omega
            · clear hjl
              go_wp2_with (at_builtin; go_must (refine wpList_push_at rfl _ _ _ rfl w.heap.size rowNd A1 D.length c1 xs rfl (hoz _) [.int .i64 nd.kind, sv (nd.name.take 30), .slice A5 j c5, sv (nd.text.take 30), .slice A4 kd'.length c4] _ (by rw [size_setCell]; rfl) rfl (by simp [Value.oneCell', sv]) (by unfold maxLen; omega) (by omega) (hsU _) ?_))
              intro A6 c6 w6 hc6 ho6 hg6 hat6
              have hn6 := push_nodes (v' := .slice A6 (D.length + 1) c6) (hDx _) hg6 (fun g hg => by rw [size_setCell]; exact hat6 g hg)
              have b6 : Below w.heap.size w w6 := (hb.trans ((HBZ.out _).mono hsz)).grown hg6 (hsU _) (own_ge (hoz (.slice A5 j c5)))
              clear hg6 hat6 hDx hoz hsU c0 c1' c3' c4' f2 ho5 b5 B2
              go_wp2
              go_roundw
              case rel => exact ⟨k + 1, D ++ [(cut1 nd m1).1], m2, _, A6, c6, rfl, by simp, by go_num, by omega, by have := HKD.out; simp; omega, by simp; omega, HD3.out, HD4.out, by simpa using ho6, by simpa using hn6, b6, by simpa using hc6⟩
              case measure => simp [intOf]; omega
      · have hnil : (cutL (l.drop k) m').1 = [] ∧ (cutL (l.drop k) m').2 = m' := by
          by_cases h : k < l.length
          · obtain rfl : m' = 0 := by omega
            rw [cutL_zero]; exact ⟨rfl, rfl⟩
          · rw [List.drop_of_length_le (by omega), cutL_nil]; exact ⟨rfl, rfl⟩
        have H1 := Lib.hid (show D = (cutL l m).1 by rw [← HD1.out, hnil.1, List.append_nil])
        have H2 := Lib.hid (show m' = (cutL l m).2 by rw [← HD2.out, hnil.2])
        have hN' := nodes_of_own hown hns
        clear hnil hns hown
        by_cases h1 : k < l.length
        · have h2 : ¬ 0 < m' := by omega
          clear hlt
          go_wp2
          go_ret2
          exact ⟨A1, c1, by rw [← H1.out, ← H2.out]; rfl, by rw [← H1.out]; exact hc1, by rw [← H1.out]; exact hN', hb⟩
        · clear hlt
          go_wp2
          go_ret2
          exact ⟨A1, c1, by rw [← H1.out, ← H2.out]; rfl, by rw [← H1.out]; exact hc1, by rw [← H1.out]; exact hN', hb⟩

theorem Cut_any (l : List Nd) : CutOk l := by
  suffices h : ∀ k, ∀ l, wtL l ≤ k → CutOk l from h _ l (Nat.le_refl _)
  intro k
  induction k with
  | zero => intro l hl; exact Cut_step l (fun l' h => by omega)
  | succ k ih => intro l hl; exact Cut_step l (fun l' h => ih l' (by omega))

/-- strainerref03.Few -/
theorem Few_any {w : World} {A : Option Addr} {c : Nat} {l : List Nd} (hN : Nodes w w.heap.size A l.length l) (hc : l.length ≤ c) :
    Calls Try.prog 15 #[.slice A l.length c] w fun e w' => ∃ A' c', e = .returned (.slice A' (cutL l 40).1.length c') ∧ (cutL l 40).1.length ≤ c' ∧
      NodesP w' (fun b => w.heap.size ≤ b ∧ b < w'.heap.size) A' (cutL l 40).1.length (cutL l 40).1 ∧ Below w.heap.size w w' := by
  go_enter Try.func15, Try.ntmps15
  go_wp2_with fail
  refine (Cut_any l _ A c 40 hN hc (Nat.le_refl _)).mono ?_
  rintro e W1 ⟨A', c', rfl, h1, h2, h3⟩
  go_wp2
  go_ret
  exact ⟨A', c', rfl, h1, h2, h3⟩
end Go.Proofs.Ytlfkipilgdeemaa
