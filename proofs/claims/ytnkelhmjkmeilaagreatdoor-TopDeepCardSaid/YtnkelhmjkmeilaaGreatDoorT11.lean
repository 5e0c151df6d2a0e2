/- Plain: a beginning tag's attributes, one behind the other. The package token: beginning. The package token: Tag, Ends. -/
import Derived.Deep.DeepCutAuto
import Derived.Test.YtnkelhmjkmeilaaGreatDoorT02
import Derived.Test.YtnkelhmjkmeilaaGreatDoorT09
import Derived.Test.YtnkelhmjkmeilaaGreatDoorT10
section
namespace Go.Proofs.YtnkelhmjkmeilaaGreatDoor
theorem begF_end {f : Nat} {l : List UInt8} {i j : Nat} {acc : List Atr} (hj : j = i + spanL skB (l.drop i)) (h : l.length ≤ j) : begF (f + 1) l i acc = none := by
  subst hj
  unfold begF
  rw [List.drop_of_length_le h]
theorem begF_stop {f : Nat} {l : List UInt8} {i j : Nat} {acc : List Atr} (hj : j = i + spanL skB (l.drop i)) (h : j < l.length) (hc : l[j].toNat = 62) : begF (f + 1) l i acc = some (acc, j + 1) := by
  subst hj
  unfold begF
  rw [List.drop_eq_getElem_cons h]
  simp only [hc, if_true]
theorem begF_go {f : Nat} {l : List UInt8} {i j : Nat} {acc : List Atr} (hj : j = i + spanL skB (l.drop i)) (h : j < l.length) (hc : l[j].toNat ≠ 62) :
    begF (f + 1) l i acc = begF f l (j + (atL (l.drop j)).2) (if (valL acc (atL (l.drop j)).1.1).isSome then acc else acc ++ [(atL (l.drop j)).1]) := by
  subst hj
  conv => lhs; unfold begF
  rw [List.drop_eq_getElem_cons h]
  simp only [hc, if_false]
theorem atL_bd {l : List UInt8} (hl : 0 < l.length) (h1 : skB l[0] = false) (h2 : l[0].toNat ≠ 62) : 1 ≤ (atL l).2 ∧ (atL l).2 ≤ l.length := by
  have ha : anB l[0] = true := by
    simp only [skB, Bool.or_eq_false_iff, beq_eq_false_iff_ne, ne_eq] at h1
    simp only [anB, h1.1, Bool.not_false, Bool.true_and, Bool.and_eq_true, bne_iff_ne]
    exact ⟨h1.2.1, h2, h1.2.2⟩
  obtain ⟨i, hi⟩ : ∃ i, i = spanL anB l := ⟨_, rfl⟩
  have hi1 : 1 ≤ i := by
    rw [hi]
    cases l with
    | nil => simp at hl
    | cons c t =>
      rw [List.getElem_cons_zero] at ha
      simp only [spanL, ha, if_true]
      omega
  have hil : i ≤ l.length := by rw [hi]; exact spanL_le _ _
  obtain ⟨j, hj⟩ : ∃ j, j = i + spanL blk (l.drop i) := ⟨_, rfl⟩
  have hjl : j ≤ l.length := by
    have := spanL_le blk (l.drop i)
    rw [List.length_drop] at this
    omega
  by_cases hj2 : l.length ≤ j
  · rw [atL_1 hi hj hj2]; simp only []; omega
  · have hj3 : j < l.length := by omega
    by_cases hc : l[j].toNat = 61
    · obtain ⟨k, hk⟩ : ∃ k, k = j + 1 + spanL blk (l.drop (j + 1)) := ⟨_, rfl⟩
      have hkl : k ≤ l.length := by
        have := spanL_le blk (l.drop (j + 1))
        rw [List.length_drop] at this
        omega
      by_cases hk2 : l.length ≤ k
      · rw [atL_3 hi hj hk hj3 hc hk2]; simp only []; omega
      · have hk3 : k < l.length := by omega
        obtain ⟨q, hq⟩ : ∃ q, l[k] = q := ⟨_, rfl⟩
        by_cases hqq : q.toNat = 34 ∨ q.toNat = 39
        · obtain ⟨m, hm⟩ : ∃ m, m = spanL (noq q) (l.drop (k + 1)) := ⟨_, rfl⟩
          have := spanL_le (noq q) (l.drop (k + 1))
          rw [List.length_drop] at this
          rw [atL_4 hi hj hk hj3 hc hk3 hq hqq hm]
          split <;> simp only [] <;> omega
        · obtain ⟨m, hm⟩ : ∃ m, m = spanL avB (l.drop k) := ⟨_, rfl⟩
          have := spanL_le avB (l.drop k)
          rw [List.length_drop] at this
          rw [atL_5 hi hj hk hj3 hc hk3 hq hqq hm]
          simp only []
          omega
    · rw [atL_2 hi hj hj3 hc]; simp only []; omega
theorem atL_next {l : List UInt8} {i j : Nat} (hj : j = i + spanL skB (l.drop i)) (h : j < l.length) (hc : l[j].toNat ≠ 62) : 1 ≤ (atL (l.drop j)).2 ∧ j + (atL (l.drop j)).2 ≤ l.length := by
  have h0 : 0 < (l.drop j).length := by rw [List.length_drop]; omega
  have e0 : (l.drop j)[0] = l[j] := by simp
  have hs : skB l[j] = false := by
    have := spanL_stop skB (l.drop i) l[j]
    apply this
    rw [List.getElem?_drop, ← hj, List.getElem?_eq_getElem h]
  have := atL_bd h0 (by rw [e0]; exact hs) (by rw [e0]; exact hc)
  rw [List.length_drop] at this
  omega
theorem valL_snoc (acc : List Atr) (a : Atr) (k : List UInt8) : (valL (acc ++ [a]) k).isSome = ((valL acc k).isSome || a.1 == k) := by
  induction acc with
  | nil =>
    simp only [List.nil_append, valL, Option.isSome_none, Bool.false_or]
    cases h : a.1 == k <;> simp
  | cons b acc ih =>
    simp only [List.cons_append, valL]
    cases h : b.1 == k
    · simpa using ih
    · simp
end Go.Proofs.YtnkelhmjkmeilaaGreatDoor
namespace Go.Proofs.YtnkelhmjkmeilaaGreatDoor
open Go.RowKit Go.Maps Go.WideMaps
structure TgSt (w W : World) (g : Nat) (nm : ByteArray) (A : Option Addr) (c : Nat) (acc : List Atr) : Prop where
  out : W.heap[w.heap.size]? = some (.cells #[.int .i64 0, .string ⟨#[]⟩, .slice none 0 0, .string ⟨#[]⟩] 443 (0, 0))
  own : W.heap[g]? = some (.cells #[.int .i64 1, .string nm, .slice A acc.length c, .string ⟨#[]⟩] 443 (0, 0))
  far : w.heap.size < g
  bel : Below w.heap.size w W
  row : W.ownsRow (g + 1) 78 2 (.slice A acc.length c) acc.length (atrCells acc)
  cap : acc.length ≤ c
section
variable {w W W' : World} {g : Nat} {nm : ByteArray} {A : Option Addr} {c : Nat} {acc : List Atr}
theorem TgSt.lt (h : TgSt w W g nm A c acc) : g < W.heap.size := (Array.getElem?_eq_some_iff.1 h.own).1
theorem TgSt.step (h : TgSt w W g nm A c acc) (b : Below W.heap.size W W') : TgSt w W' g nm A c acc where
  out := (b.block _ (Array.getElem?_eq_some_iff.1 h.out).1).trans h.out
  own := (b.block _ h.lt).trans h.own
  far := h.far
  bel := bt h.bel b
  row := own_below h.row b (Nat.le_refl _)
  cap := h.cap
theorem TgSt.map (h : TgSt w W g nm A c acc) {b : Nat} (hb : g < b) (hg : W.grownBy W' (some b)) (hne : some b ≠ (Value.slice A acc.length c).ownBlock) : TgSt w W' g nm A c acc where
  out := (hg.block _ (Array.getElem?_eq_some_iff.1 h.out).1 (fun e => by injection e with e; have := h.far; omega)).trans h.out
  own := (hg.block _ h.lt (fun e => by injection e with e; omega)).trans h.own
  far := h.far
  bel := below_map h.bel hg (by have := h.far; omega)
  row := h.row.kept (row := some b) hg (.inr (fun e => hne e.symm))
  cap := h.cap
theorem TgSt.cells (h : TgSt w W g nm A c acc) : (W.cell? ⟨w.heap.size, 0, none⟩ = some (.int .i64 0) ∧ W.cell? ⟨w.heap.size, 1, none⟩ = some (.string ⟨#[]⟩) ∧ W.cell? ⟨w.heap.size, 2, none⟩ = some (.slice none 0 0) ∧ W.cell? ⟨w.heap.size, 3, none⟩ = some (.string ⟨#[]⟩)) ∧
    (W.frozen? ⟨w.heap.size, 0, none⟩ = false ∧ W.frozen? ⟨w.heap.size, 1, none⟩ = false ∧ W.frozen? ⟨w.heap.size, 2, none⟩ = false ∧ W.frozen? ⟨w.heap.size, 3, none⟩ = false) ∧
    (W.cell? ⟨g, 0, none⟩ = some (.int .i64 1) ∧ W.cell? ⟨g, 1, none⟩ = some (.string nm) ∧ W.cell? ⟨g, 2, none⟩ = some (.slice A acc.length c) ∧ W.cell? ⟨g, 3, none⟩ = some (.string ⟨#[]⟩)) ∧ W.frozen? ⟨g, 2, none⟩ = false ∧ w.heap.size ≠ g := by
  have hc := fun j => Lib.cell_of_heap h.out j
  have hd := fun j => Lib.cell_of_heap h.own j
  have c0 := hc 0
  have c1 := hc 1
  have c2 := hc 2
  have c3 := hc 3
  have d0 := hd 0
  have d1 := hd 1
  have d2 := hd 2
  have d3 := hd 3
  simp only [List.getElem?_toArray, List.getElem?_cons_zero, List.getElem?_cons_succ] at c0 c1 c2 c3 d0 d1 d2 d3
  have := h.far
  exact ⟨⟨c0, c1, c2, c3⟩, ⟨Lib.frozen_of_heap h.out 0, Lib.frozen_of_heap h.out 1, Lib.frozen_of_heap h.out 2, Lib.frozen_of_heap h.out 3⟩, ⟨d0, d1, d2, d3⟩, Lib.frozen_of_heap h.own 2, by omega⟩
end
theorem tok_cell {w : World} {g : Nat} (v0 v1 v2 v3 : Value) (p : Addr) (hp : p.block ≠ g) :
    ((((w.setCell ⟨g, 0, none⟩ v0).setCell ⟨g, 1, none⟩ v1).setCell ⟨g, 2, none⟩ v2).setCell ⟨g, 3, none⟩ v3).cell? p = w.cell? p := by
  have h : ∀ (w : World) j v, (w.setCell ⟨g, j, none⟩ v).cell? p = w.cell? p := fun w j v => World.cell?_setCell_other _ _ _ _ (fun e => hp (by subst e; rfl))
  rw [h, h, h, h]
theorem tok_size {w : World} {g : Nat} (v0 v1 v2 v3 : Value) : ((((w.setCell ⟨g, 0, none⟩ v0).setCell ⟨g, 1, none⟩ v1).setCell ⟨g, 2, none⟩ v2).setCell ⟨g, 3, none⟩ v3).heap.size = w.heap.size := by
  rw [size_setCell, size_setCell, size_setCell, size_setCell]
theorem atL_name (l : List UInt8) : (atL l).1.1 = lowL (l.take (spanL anB l)) := by
  unfold atL
  simp only []
  split
  · rfl
  · split
    · rfl
    · split
      · rfl
      · split
        · split <;> rfl
        · rfl
theorem atL_name_le (l : List UInt8) : (atL l).1.1.length ≤ l.length := by
  rw [atL_name, lowL, List.length_map, List.length_take]
  omega
theorem set_grown (w : World) (g j : Nat) (v : Value) : w.grownBy (w.setCell ⟨g, j, none⟩ v) (some g) :=
  ⟨rfl, rfl, rfl, by rw [size_setCell]; exact Nat.le_refl _, fun k _ hne => Below.heap_setCell _ _ _ _ (fun e => hne (by rw [e]))⟩
theorem look_nil {P : Program} {k e t : TypeId} (K : Keyed P k) (ht : P.underlying t = some (.map k e)) {w : World} {z : Value} (hz : (zeroValue e).run P w = .ok z w) {key : Value} {kl : Lit} (hkey : keyOf P k key = some kl) :
    (Instr.lookup t (.map none) key true).run P w = .ok (.tuple #[z, .bool false]) w := by
  rcases K.find w hkey [] (by simp) with ⟨hf, _⟩ | ⟨j, e0, hf, hj, _⟩
  · simp [Instr.lookup, run_underlying ht, K.check w _ hkey, hz, hf, Result.andThen]
  · simp at hj
theorem eq_nil (w : World) : Sem.run Tryz.prog (binOp BinOp.eql 169 (.map none) (.map none)) w = .ok (.bool true) w := by kernel_rfl
theorem eq_map (b : Nat) (w : World) : Sem.run Tryz.prog (binOp BinOp.eql 169 (.map (some b)) (.map none)) w = .ok (.bool false) w := by kernel_rfl
def metUp (f : Value → Option Value) (l : List UInt8) (val : Value) : Value → Option Value
  | .string t => if t.data.toList = l then some val else f (.string t)
  | v => f v
theorem metUp_new (f : Value → Option Value) (s : ByteArray) (val : Value) : metUp f s.data.toList val (.string s) = some val := by simp [metUp]
theorem metUp_old (f : Value → Option Value) (s : ByteArray) (val : Value) (x : Value) (h : x ≠ .string s) : metUp f s.data.toList val x = f x := by
  cases x with
  | string t =>
    simp only [metUp]
    rw [if_neg]
    intro e
    apply h
    have := (IsStr.of t).eq (IsStr.of s) e
    rw [this]
  | _ => rfl
theorem metUp_some (f : Value → Option Value) (acc : List Atr) (a : Atr) (val : Value) (h : ∀ s : ByteArray, (f (.string s)).isSome = (valL acc s.data.toList).isSome) (s : ByteArray) :
    (metUp f a.1 val (.string s)).isSome = (valL (acc ++ [a]) s.data.toList).isSome := by
  rw [valL_snoc, ← h]
  simp only [metUp]
  by_cases e : s.data.toList = a.1
  · rw [if_pos e, e]; simp
  · rw [if_neg e, show (a.1 == s.data.toList) = false by rw [beq_eq_false_iff_ne]; exact fun x => e x.symm]; simp
def MetIs (W : World) (g : Nat) (acc : List Atr) : Option Nat → Prop
  | none => acc = []
  | some b => g < b ∧ ∃ n f, MapIs Tryz.prog 9 W b n f ∧ ∀ s : ByteArray, (f (.string s)).isSome = (valL acc s.data.toList).isSome
theorem MetIs.step {W W' : World} {g : Nat} {acc : List Atr} {mb : Option Nat} (h : MetIs W g acc mb) (b : Below W.heap.size W W') : MetIs W' g acc mb := by
  cases mb with
  | none => exact h
  | some m =>
    obtain ⟨h0, n, f, h1, h2⟩ := h
    exact ⟨h0, n, f, h1.below b h1.lt, h2⟩
theorem TgSt.push {w W W8 : World} {g : Nat} {nm : ByteArray} {A A8 : Option Addr} {c c8 : Nat} {acc : List Atr} {a : Atr} (h : TgSt w W g nm A c acc) (g8 : W.grownBy W8 (Value.slice A acc.length c).ownBlock)
    (o8 : W8.ownsRow (g + 1) 78 2 (.slice A8 (acc.length + 1) c8) (acc.length + 1) (atrCells acc ++ [sv a.1, sv a.2])) (hc8 : acc.length + 1 ≤ c8) :
    TgSt w (W8.setCell ⟨g, 2, none⟩ (.slice A8 (acc.length + 1) c8)) g nm A8 c8 (acc ++ [a]) := by
  have hfar := h.far
  have hrow := own_ge h.row
  have hl : (acc ++ [a]).length = acc.length + 1 := by simp
  have own8 : W8.heap[g]? = some (.cells #[.int .i64 1, .string nm, .slice A acc.length c, .string ⟨#[]⟩] 443 (0, 0)) :=
    (g8.block _ h.lt (fun e => by have := hrow _ e.symm; omega)).trans h.own
  refine ⟨?_, ?_, h.far, ?_, ?_, by rw [hl]; exact hc8⟩
  · exact (Below.heap_setCell _ _ _ _ (by simp only []; omega)).trans ((g8.block _ (Array.getElem?_eq_some_iff.1 h.out).1 (fun e => by have := hrow _ e.symm; omega)).trans h.out)
  · rw [heap_setCell_same W8 g 2 _ _ _ own8, hl]; simp
  · exact (h.bel.grown g8 h.bel.size (fun b hb => by have := hrow b hb; omega)).setCell (p := ⟨g, 2, none⟩) (by simp only []; omega) _
  · rw [hl]
    have := o8.kept (row := some g) (set_grown W8 g 2 (.slice A8 (acc.length + 1) c8)) (.inr (fun e => by have := (o8.lt _ e).1; omega))
    rw [atrCells_append]
    exact this
theorem MetIs.push {w W W8 : World} {g b n : Nat} {nm : ByteArray} {A : Option Addr} {c : Nat} {acc : List Atr} {a : Atr} {f : Value → Option Value} {v : Value} (h : TgSt w W g nm A c acc) (g8 : W.grownBy W8 (Value.slice A acc.length c).ownBlock)
    (m : MapIs Tryz.prog 9 W b n f) (hb : g < b) (hf : ∀ s : ByteArray, (f (.string s)).isSome = (valL (acc ++ [a]) s.data.toList).isSome) : MetIs (W8.setCell ⟨g, 2, none⟩ v) g (acc ++ [a]) (some b) :=
  ⟨hb, n, f, (m.grown g8 (m.own_ne h.row)).setCell (by simp only []; omega) v, hf⟩
set_option maxHeartbeats 1000000 in
set_option maxRecDepth 100000 in
theorem beginning_any {w : World} {s : ByteArray} {l : List UInt8} (hs : IsStr s l) (hl : l.length ≤ 1000000) (h2 : 2 ≤ l.length) :
    Calls Tryz.prog 322 #[.string s] w fun e w' => ∃ A c, e = .returned (.tuple #[tkv (begL l).1 (.slice A (begL l).1.attrs.length c), .int .i64 (begL l).2]) ∧ (begL l).1.attrs.length ≤ c ∧
      RdP w' (fun b => w.heap.size ≤ b ∧ b < w'.heap.size) 2 A (begL l).1.attrs.length (atrCells (begL l).1.attrs) ∧ Below w.heap.size w w' := by
  have hss := hs.size
  have hsb : s.size ≤ 1000000 := by omega
  have hs2 : 2 ≤ s.size := by omega
  have HS := Lib.hid hs
  have HSS := Lib.hid hss
  clear hs hss
  have hd := s_drop HS.out 1
  have hdl : (l.drop 1).length ≤ 1000000 := by rw [List.length_drop]; omega
  obtain ⟨i, hi⟩ : ∃ i, i = 1 + titleL (l.drop 1) := ⟨_, rfl⟩
  have hil : i ≤ s.size := by
    have := titleL_le (l.drop 1)
    rw [List.length_drop] at this
    have := HSS.out
    omega
  obtain ⟨n0, hn0⟩ : ∃ n0, n0 = titleL (l.drop 1) := ⟨_, rfl⟩
  have hii : (1 : Int) + (n0 : Nat) = (i : Nat) := by omega
  have HN0 := Lib.hid hn0
  have hi1 : 1 ≤ i := by omega
  have HI := Lib.hid hi
  clear hi hn0
  generalize hde : s.extract 1 s.size = d at *
  go_enter Tryz.func322, Tryz.ntmps322
  go_wp2_with fail
  refine (title_any hd hdl).mono ?_
  rintro e W1 ⟨rfl, b1⟩
  rw [← HN0.out]
  rw [World.size_alloc] at b1
  have h1 := (b1.block w.heap.size (by omega)).trans (heap_alloc_new w _)
  have B1 : Below w.heap.size w W1 := ((Below.refl w.heap.size w).alloc (Nat.le_refl _) _).trans (b1.mono (by omega))
  have s1 := b1.size
  rw [World.size_alloc] at s1
  clear b1 hd hdl hde
  have hx := s_part HS.out 1 i
  have hxl : ((l.drop 1).take (i - 1)).length ≤ 1000000 := by rw [List.length_take]; omega
  generalize hxe : s.extract 1 i = x at *
  go_wp2_with fail
  refine (Fold_any hx hxl).mono ?_
  rintro e W2 ⟨y, rfl, hy, b2⟩
  have HY := Lib.hid (show IsStr y (lowL ((l.drop 1).take (titleL (l.drop 1)))) by rw [show titleL (l.drop 1) = i - 1 by have := HI.out; omega]; exact hy)
  have s2 := b2.size
  have st : TgSt w (W2.alloc (.cells #[.int .i64 1, .string y, .slice none 0 0, .string ⟨#[]⟩] 443)) W2.heap.size y none 0 [] :=
    ⟨(Below.heap_alloc _ _ _ (by omega)).trans ((b2.block _ (by omega)).trans h1), heap_alloc_new _ _, by omega, (bt B1 b2).alloc (by omega) _, World.ownsRow_nil _ _ _ _, Nat.le_refl _⟩
  clear hx hxl hxe b2 h1 B1 s1 hy hii s2
  go_wp2
  generalize W2.heap.size = g at *
  go_loopw [4, 6] (fun iv mv wr => ∃ (k : Nat) (acc : List Atr) (A : Option Addr) (c : Nat) (mb : Option Nat) (f : Nat), iv = .int .i64 k ∧ mv = .map mb ∧ k ≤ s.size ∧ TgSt w wr g y A c acc ∧ MetIs wr g acc mb ∧ acc.length ≤ k ∧
      begF f l k acc = begF (l.length + 1) l i [] ∧ s.size - k < f) (fun iv _ _ => s.size - (intOf iv).toNat)
  case atStart => exact ⟨i, [], none, 0, none, l.length + 1, rfl, rfl, hil, st, rfl, Nat.zero_le _, rfl, by have := HSS.out; omega⟩
  case round =>
    obtain ⟨k, acc, A, c, mb, f, rfl, rfl, hk, st1, hmet, hal, hbeg, hf⟩ := hrel
    obtain ⟨f, rfl⟩ : ∃ f', f = f' + 1 := ⟨f - 1, by omega⟩
    have HB := Lib.hid hbeg
    have hd := s_drop HS.out k
    have hdl : (l.drop k).length ≤ 1000000 := by rw [List.length_drop]; omega
    obtain ⟨n1, hn1⟩ : ∃ n1, n1 = spanL skB (l.drop k) := ⟨_, rfl⟩
    obtain ⟨j, hj⟩ : ∃ j, j = k + n1 := ⟨_, rfl⟩
    have hjs : j ≤ s.size := by
      have := spanL_le skB (l.drop k)
      rw [List.length_drop] at this
      have := HSS.out
      omega
    have hkj : (k : Int) + (n1 : Nat) = (j : Nat) := by omega
    have hkj0 : k ≤ j := by omega
    have HN1 := Lib.hid hn1
    have HJ := Lib.hid (show j = k + spanL skB (l.drop k) by rw [hj, hn1])
    clear hbeg hn1 hj
    generalize hde : s.extract k s.size = d at *
    go_wp2_with fail
    refine (span_any takenSkip hd hdl (fun _ _ => trivial)).mono ?_
    rintro e W3 ⟨rfl, b3⟩
    rw [← HN1.out]
    have st3 := st1.step b3
    have hmet3 := hmet.step b3
    obtain ⟨⟨r0, r1, r2, r3⟩, ⟨q0, q1, q2, q3⟩, ⟨c0, c1, c2, c3⟩, fz, hne⟩ := st3.cells
    clear st1 hmet b3 hd hdl hde
    by_cases hjl : j < s.size
    · have hjl2 : j < l.length := by rw [← HSS.out]; exact hjl
      have e1 := s_byte HS.out j hjl hjl2
      by_cases hc : l[j].toNat = 62
      · have qc : (((s[j]).toNat : Int) == 62) = true := by rw [e1, hc]; rfl
        have HR := Lib.hid (show begL l = (⟨1, lowL ((l.drop 1).take (titleL (l.drop 1))), acc, []⟩, j + 1) by
          unfold begL
          rw [← HI.out, ← HB.out, begF_stop HJ.out hjl2 hc])
        generalize hcc : s[j] = cc at *
        clear e1 hc
        have HV := Lib.hid (show tkv (begL l).1 (.slice A (begL l).1.attrs.length c) = .agg #[.int .i64 1, .string y, .slice A acc.length c, .string ⟨#[]⟩] by rw [HR.out, HY.out.to]; rfl)
        have HN := Lib.hid (show ((begL l).2 : Int) = j + 1 by rw [HR.out]; simp)
        go_wp2
        refine ret_tok rfl rfl rfl rfl (tok_stored st3.out _ _ _ _) ⟨A, c, by rw [HV.out, HN.out]; rfl, by rw [HR.out]; exact st3.cap, ?_, tok_below st3.bel (Nat.le_refl _) _ _ _ _⟩
        rw [HR.out]
        have hfar := st3.far
        exact ((RdP.of_own st3.row).keep (fun p hp => tok_cell _ _ _ _ p (by omega))).more (fun b hb => ⟨by omega, by rw [tok_size]; exact hb.2⟩)
      · have qc : (((s[j]).toNat : Int) == 62) = false := by rw [e1, beq_eq_false_iff_ne]; omega
        obtain ⟨ha1, ha2⟩ := atL_next HJ.out hjl2 hc
        have HG := Lib.hid ((begF_go (f := f) (acc := acc) HJ.out hjl2 hc).symm.trans HB.out)
        generalize hcc : s[j] = cc at *
        clear e1 hc
        have hd := s_drop HS.out j
        have hdl : (l.drop j).length ≤ 1000000 := by rw [List.length_drop]; omega
        generalize hde : s.extract j s.size = d2 at *
        go_wp2_with fail
        refine (attribute_tok hd hdl).mono ?_
        rintro e W4 ⟨rfl, b4⟩
        have st4 := st3.step b4
        have hmet4 := hmet3.step b4
        have hnl := atL_name_le (l.drop j)
        clear st3 hmet3 b4 hd hdl hde
        generalize atL (l.drop j) = am at *
        obtain ⟨a, n⟩ := am
        obtain ⟨an, av⟩ := a
        simp only [] at ha1 ha2 hnl ⊢
        have hjn : j + n ≤ s.size := by have := HSS.out; omega
        have hkey : keyOf Tryz.prog 9 (.string ⟨an.toArray⟩) = some (.string an) := by
          have h := keyOf_string_mk (P := Tryz.prog) (s := ⟨an.toArray⟩) Tryz.underlying9 (by unfold maxLen; have : (⟨an.toArray⟩ : ByteArray).size = an.length := rfl; have := List.length_drop (i := j) (l := l); omega)
          exact h
        have hz : ∀ w, (zeroValue 3).run Tryz.prog w = .ok (.int .i64 0) w := fun w => by kernel_rfl
        have ba := (Below.refl W4.heap.size W4).alloc (Nat.le_refl _) (.cells #[.string ⟨an.toArray⟩, .string ⟨av.toArray⟩] 78)
        have st5 := st4.step ba
        have hmet5 := hmet4.step ba
        unfold atv
        cases mb with
        | none =>
          have hlook := look_nil keyS Tryz.underlying169 (hz (W4.alloc (.cells #[.string ⟨an.toArray⟩, .string ⟨av.toArray⟩] 78))) hkey
          have heq := eq_nil
          have hmm := @run_makeMap Tryz.prog
          have hacc : acc = [] := hmet5
          have m6 := MapIs.made Tryz.prog 9 (W4.alloc (.cells #[.string ⟨an.toArray⟩, .string ⟨av.toArray⟩] 78))
          have bm := (Below.refl _ (W4.alloc (.cells #[.string ⟨an.toArray⟩, .string ⟨av.toArray⟩] 78))).alloc (Nat.le_refl _) (.map #[] 0)
          have st6 := st5.step bm
          rw [World.size_alloc] at m6
          have hgb : g < W4.heap.size + 1 := by have := st4.lt; omega
          clear hmet5 hmet4
          have hAm := (Below.heap_alloc (W4.alloc (.cells #[.string ⟨an.toArray⟩, .string ⟨av.toArray⟩] 78)) (.map #[] 0) W4.heap.size (by simp)).trans (heap_alloc_new W4 (.cells #[.string ⟨an.toArray⟩, .string ⟨av.toArray⟩] 78))
          have hf0 : ∀ s : ByteArray, ((fun _ => none : Value → Option Value) (.string s)).isSome = (valL acc s.data.toList).isSome := fun s => by rw [hacc]; rfl
          have hno : (valL acc an).isSome = false := by rw [hacc]; rfl
          clear hacc
          go_upto_region 16 with (refine wpList_mapset rfl _ _ _ _ (.inl rfl) keyS Tryz.underlying169 rfl m6 _ _ _ rfl rfl hkey (metUp (fun _ => none) an (.int .i64 (j + n))) (metUp_new _ ⟨an.toArray⟩ _) (fun y hy => metUp_old _ ⟨an.toArray⟩ _ y hy) ?_; intro W7 m7 g7)
          have st7 := st6.map hgb g7 (m6.own_ne st6.row)
          have hA := (g7.block W4.heap.size (by first | (simp; done) | (simp; omega)) (fun e => by injection e with e; omega)).trans hAm
          have hAc := fun j => Lib.cell_of_heap hA j
          have a0 := hAc 0
          have a1 := hAc 1
          simp only [List.getElem?_toArray, List.getElem?_cons_zero, List.getElem?_cons_succ] at a0 a1
          obtain ⟨_, _, ⟨c0, c1, c2, c3⟩, fz, hne⟩ := st7.cells
          have hlt7 := st7.lt
          have hlen : acc.length ≤ 1000000 := by omega
          clear hAc hA
          go_wp2_with (at_builtin; go_must (refine wpList_push rfl _ _ _ rfl (g + 1) rowAt A acc.length c (atrCells acc) rfl st7.row [.string ⟨an.toArray⟩, .string ⟨av.toArray⟩] 1 rfl rfl (by simp [Value.oneCell']) (by unfold maxLen; omega) (by omega) hlt7 ?_))
          intro A8 c8 W8 hc8 o8 g8
          have own8 := (g8.block g hlt7 (fun e => by have := own_ge st7.row _ e.symm; omega)).trans st7.own
          have d2 := Lib.cell_of_heap own8 2
          have fz8 := Lib.frozen_of_heap own8 2
          simp only [List.getElem?_toArray, List.getElem?_cons_zero, List.getElem?_cons_succ] at d2
          have st9 := st7.push (a := (an, av)) g8 o8 hc8
          have met9 := MetIs.push (a := (an, av)) (v := .slice A8 (acc.length + 1) c8) st7 g8 m7 hgb (metUp_some _ acc (an, av) _ hf0)
          have HG2 := Lib.hid (show begF f l (j + n) (acc ++ [(an, av)]) = begF (l.length + 1) l i [] by rw [← HG.out, if_neg (by rw [hno]; simp)])
          clear st7 m7 g7 g8 o8
          go_wp2
          go_roundw
          case rel => exact ⟨j + n, acc ++ [(an, av)], A8, c8, some _, f, by go_num, rfl, hjn, by simpa using st9, met9, by simp; omega, HG2.out, by omega⟩
          case measure => simp [intOf]; omega
        | some mb =>
          obtain ⟨hgb, nn, f0, m5, hf0⟩ := hmet5
          have hlook := m5.look keyS Tryz.underlying169 (hz _) hkey true
          have heq := eq_map mb
          have hin := hf0 ⟨an.toArray⟩
          have hal2 : (⟨an.toArray⟩ : ByteArray).data.toList = an := by simp
          rw [hal2] at hin
          clear hmet4 hal2
          cases hfk : f0 (.string ⟨an.toArray⟩) with
          | some v =>
            rw [hfk] at hlook hin
            simp only [if_true] at hlook
            have hyes : (valL acc an).isSome = true := by rw [← hin]; rfl
            have HG2 := Lib.hid (show begF f l (j + n) acc = begF (l.length + 1) l i [] by rw [← HG.out, if_pos hyes])
            have HM := Lib.hid (show MetIs (W4.alloc (.cells #[.string ⟨an.toArray⟩, .string ⟨av.toArray⟩] 78)) g acc (some mb) from ⟨hgb, nn, f0, m5, hf0⟩)
            clear hin hyes hfk hf0
            go_wp2
            go_roundw
            case rel => exact ⟨j + n, acc, A, c, some mb, f, by go_num, rfl, hjn, st5, HM.out, by omega, HG2.out, by omega⟩
            case measure => simp [intOf]; omega
          | none =>
            rw [hfk] at hlook hin
            simp only [if_true] at hlook
            have hno : (valL acc an).isSome = false := by rw [← hin]; rfl
            have hAm := heap_alloc_new W4 (.cells #[.string ⟨an.toArray⟩, .string ⟨av.toArray⟩] 78)
            have hmb : mb ≠ W4.heap.size := by
              intro e
              obtain ⟨es, clock, hbb, _⟩ := m5
              rw [e, hAm] at hbb
              cases hbb
            clear hin hfk
            go_upto_region 16 with (refine wpList_mapset rfl _ _ _ _ (.inl rfl) keyS Tryz.underlying169 rfl m5 _ _ _ rfl rfl hkey (metUp f0 an (.int .i64 (j + n))) (metUp_new _ ⟨an.toArray⟩ _) (fun y hy => metUp_old _ ⟨an.toArray⟩ _ y hy) ?_; intro W7 m7 g7)
            have st7 := st5.map hgb g7 (m5.own_ne st5.row)
            have hA := (g7.block W4.heap.size (by first | (simp; done) | (simp; omega)) (fun e => by injection e with e; omega)).trans hAm
            have hAc := fun j => Lib.cell_of_heap hA j
            have a0 := hAc 0
            have a1 := hAc 1
            simp only [List.getElem?_toArray, List.getElem?_cons_zero, List.getElem?_cons_succ] at a0 a1
            obtain ⟨_, _, ⟨c0, c1, c2, c3⟩, fz, hne⟩ := st7.cells
            have hlt7 := st7.lt
            have hlen : acc.length ≤ 1000000 := by omega
            clear hAc hA
            go_wp2_with (at_builtin; go_must (refine wpList_push rfl _ _ _ rfl (g + 1) rowAt A acc.length c (atrCells acc) rfl st7.row [.string ⟨an.toArray⟩, .string ⟨av.toArray⟩] 1 rfl rfl (by simp [Value.oneCell']) (by unfold maxLen; omega) (by omega) hlt7 ?_))
            intro A8 c8 W8 hc8 o8 g8
            have own8 := (g8.block g hlt7 (fun e => by have := own_ge st7.row _ e.symm; omega)).trans st7.own
            have d2 := Lib.cell_of_heap own8 2
            have fz8 := Lib.frozen_of_heap own8 2
            simp only [List.getElem?_toArray, List.getElem?_cons_zero, List.getElem?_cons_succ] at d2
            have st9 := st7.push (a := (an, av)) g8 o8 hc8
            have met9 := MetIs.push (a := (an, av)) (v := .slice A8 (acc.length + 1) c8) st7 g8 m7 hgb (metUp_some _ acc (an, av) _ hf0)
            have HG2 := Lib.hid (show begF f l (j + n) (acc ++ [(an, av)]) = begF (l.length + 1) l i [] by rw [← HG.out, if_neg (by rw [hno]; simp)])
            clear st7 m7 g7 g8 o8
            go_wp2
            go_roundw
            case rel => exact ⟨j + n, acc ++ [(an, av)], A8, c8, some _, f, by go_num, rfl, hjn, by simpa using st9, met9, by simp; omega, HG2.out, by omega⟩
            case measure => simp [intOf]; omega
    · have HR := Lib.hid (show begL l = (noTk, l.length) by
        unfold begL
        rw [← HI.out, ← HB.out, begF_end HJ.out (by have := HSS.out; omega)])
      have hje : j = s.size := by omega
      have HN := Lib.hid (show ((begL l).2 : Int) = s.size by rw [HR.out, HSS.out])
      clear hje
      go_wp2
      exact ret_tok rfl rfl rfl rfl (tok_stored st3.out _ _ _ _) ⟨none, 0, by rw [HN.out, HR.out]; rfl, by rw [HR.out]; exact Nat.le_refl 0, by rw [HR.out]; exact RdP.nil _ _ _ _, tok_below st3.bel (Nat.le_refl _) _ _ _ _⟩
end Go.Proofs.YtnkelhmjkmeilaaGreatDoor
namespace Go.Proofs.YtnkelhmjkmeilaaGreatDoor
open Go.RowKit
theorem cmtL_attrs (l : List UInt8) : (cmtL l).1.attrs = [] := by
  unfold cmtL
  split
  · split <;> rfl
  · split <;> rfl
theorem endL_attrs (l : List UInt8) : (endL l).1.attrs = [] := by
  unfold endL
  split
  · split
    · rfl
    · exact cmtL_attrs l
  · split <;> rfl
def TkOk (w w' : World) (t : Tk) (A : Option Addr) (c : Nat) : Prop := t.attrs.length ≤ c ∧ RdP w' (fun b => w.heap.size ≤ b ∧ b < w'.heap.size) 2 A t.attrs.length (atrCells t.attrs)
theorem TkOk.none (w w' : World) {t : Tk} (h : t.attrs = []) : TkOk w w' t none 0 := by
  unfold TkOk
  rw [h]
  exact ⟨Nat.le_refl 0, RdP.nil _ _ _ _⟩
theorem tag_1 {l : List UInt8} (h : startsL l = false) : tagL l = (noTk, 0) := by
  unfold tagL; rw [if_pos h]
theorem tag_2 {l : List UInt8} {c : UInt8} (h : startsL l = true) (h1 : l[1]? = some c) (hc : c.toNat = 47) : tagL l = endL l := by
  unfold tagL; rw [if_neg (by rw [h]; simp), h1]; simp only [hc, if_true]
theorem tag_3 {l : List UInt8} {c : UInt8} (h : startsL l = true) (h1 : l[1]? = some c) (hc : c.toNat = 33 ∨ c.toNat = 63) : tagL l = cmtL l := by
  unfold tagL; rw [if_neg (by rw [h]; simp), h1]
  have : c.toNat ≠ 47 := by omega
  simp only [this, if_false, hc, if_true]
theorem tag_4 {l : List UInt8} {c : UInt8} (h : startsL l = true) (h1 : l[1]? = some c) (hc : c.toNat ≠ 47) (hc2 : ¬ (c.toNat = 33 ∨ c.toNat = 63)) : tagL l = begL l := by
  unfold tagL; rw [if_neg (by rw [h]; simp), h1]
  simp only [hc, if_false, hc2]
theorem starts_two {l : List UInt8} (h : startsL l = true) : 2 ≤ l.length := by
  match l with
  | [] => simp [startsL] at h
  | [c] => simp [startsL] at h
  | a :: c :: t => simp
theorem outCells {w W : World} (h : W.heap[w.heap.size]? = some (.cells #[.int .i64 0, .string ⟨#[]⟩, .slice none 0 0, .string ⟨#[]⟩] 443 (0, 0))) :
    (W.cell? ⟨w.heap.size, 0, none⟩ = some (.int .i64 0) ∧ W.cell? ⟨w.heap.size, 1, none⟩ = some (.string ⟨#[]⟩) ∧ W.cell? ⟨w.heap.size, 2, none⟩ = some (.slice none 0 0) ∧ W.cell? ⟨w.heap.size, 3, none⟩ = some (.string ⟨#[]⟩)) ∧
    (W.frozen? ⟨w.heap.size, 0, none⟩ = false ∧ W.frozen? ⟨w.heap.size, 1, none⟩ = false ∧ W.frozen? ⟨w.heap.size, 2, none⟩ = false ∧ W.frozen? ⟨w.heap.size, 3, none⟩ = false) := by
  have hc := fun j => Lib.cell_of_heap h j
  have c0 := hc 0
  have c1 := hc 1
  have c2 := hc 2
  have c3 := hc 3
  simp only [List.getElem?_toArray, List.getElem?_cons_zero, List.getElem?_cons_succ] at c0 c1 c2 c3
  exact ⟨⟨c0, c1, c2, c3⟩, ⟨Lib.frozen_of_heap h 0, Lib.frozen_of_heap h 1, Lib.frozen_of_heap h 2, Lib.frozen_of_heap h 3⟩⟩
set_option maxHeartbeats 1000000 in
set_option maxRecDepth 100000 in
theorem Tag_any {w : World} {s : ByteArray} {l : List UInt8} (hs : IsStr s l) (hl : l.length ≤ 1000000) (hM : M0 w) :
    Calls Tryz.prog 315 #[.string s] w fun e w' => ∃ A c, e = .returned (.tuple #[tkv (tagL l).1 (.slice A (tagL l).1.attrs.length c), .int .i64 (tagL l).2]) ∧ TkOk w w' (tagL l).1 A c ∧ Below w.heap.size w w' := by
  have hss := hs.size
  have hsb : s.size ≤ 1000000 := by omega
  have ba := (Below.refl w.heap.size w).alloc (Nat.le_refl _) (.cells #[.int .i64 0, .string ⟨#[]⟩, .slice none 0 0, .string ⟨#[]⟩] 443)
  have HM := Lib.hid (hM.below ba)
  have h1 := heap_alloc_new w (.cells #[.int .i64 0, .string ⟨#[]⟩, .slice none 0 0, .string ⟨#[]⟩] 443)
  have HS := Lib.hid hs
  have HSS := Lib.hid hss
  have H1 := Lib.hid h1
  clear hs hss hM h1
  go_enter Tryz.func315, Tryz.ntmps315
  go_wp2_with fail
  refine (Starts_any HS.out hl _).mono ?_
  rintro e W1 ⟨rfl, rfl⟩
  cases hst : startsL l with
  | false =>
    have HR := Lib.hid (tag_1 hst)
    clear hst
    go_wp2
    exact ret_tok rfl rfl rfl rfl (heap_alloc_new _ _) ⟨none, 0, by rw [HR.out]; rfl, TkOk.none _ _ (by rw [HR.out]; rfl), ba⟩
  | true =>
    have h2 := starts_two hst
    have hs1 : 1 < s.size := by have := HSS.out; omega
    have e1 := s_byte HS.out 1 hs1 (by omega)
    have h11 : l[1]? = some l[1] := List.getElem?_eq_getElem (by omega)
    generalize l[1] = c at *
    by_cases hc : c.toNat = 47
    · have q1 : (((s[1]).toNat : Int) == 47) = true := by rw [e1, hc]; rfl
      have HR := Lib.hid (tag_2 hst h11 hc)
      generalize hcc : s[1] = cc at *
      clear hst h11 hc e1
      go_wp2_with fail
      refine (ending_any HS.out hl h2 HM.out).mono ?_
      rintro e W2 ⟨rfl, b2⟩
      rw [World.size_alloc] at b2
      have h3 := (b2.block w.heap.size (by omega)).trans H1.out
      obtain ⟨⟨c0, c1, c2, c3⟩, ⟨f0, f1, f2, f3⟩⟩ := outCells h3
      have B2 := ba.trans (b2.mono (by omega))
      have hat := endL_attrs l
      unfold tkv nov
      clear b2
      go_wp2
      exact ret_tok rfl rfl rfl rfl (tok_stored h3 _ _ _ _) ⟨none, 0, by rw [HR.out, hat]; rfl, TkOk.none _ _ (by rw [HR.out, hat]), tok_below B2 (Nat.le_refl _) _ _ _ _⟩
    · have q1 : (((s[1]).toNat : Int) == 47) = false := by rw [e1, beq_eq_false_iff_ne]; omega
      by_cases hc2 : c.toNat = 33 ∨ c.toNat = 63
      · have HR := Lib.hid (tag_3 hst h11 hc2)
        have q2 : ((((s[1]).toNat : Int) == 33) = true) ∨ ((((s[1]).toNat : Int) == 33) = false ∧ (((s[1]).toNat : Int) == 63) = true) := by
          rw [e1]
          rcases hc2 with h | h
          · left; rw [h]; rfl
          · right; rw [h]; exact ⟨rfl, rfl⟩
        generalize hcc : s[1] = cc at *
        clear hst h11 hc hc2 e1
        rcases q2 with q2 | ⟨q2, q3⟩
        all_goals
          go_wp2_with fail
          refine (comment_any HS.out hl h2 HM.out).mono ?_
          rintro e W2 ⟨rfl, b2⟩
          rw [World.size_alloc] at b2
          have h3 := (b2.block w.heap.size (by omega)).trans H1.out
          obtain ⟨⟨c0, c1, c2, c3⟩, ⟨f0, f1, f2, f3⟩⟩ := outCells h3
          have B2 := ba.trans (b2.mono (by omega))
          have hat := cmtL_attrs l
          unfold tkv nov
          clear b2
          go_wp2
          exact ret_tok rfl rfl rfl rfl (tok_stored h3 _ _ _ _) ⟨none, 0, by rw [HR.out, hat]; rfl, TkOk.none _ _ (by rw [HR.out, hat]), tok_below B2 (Nat.le_refl _) _ _ _ _⟩
      · have HR := Lib.hid (tag_4 hst h11 hc hc2)
        have q2 : (((s[1]).toNat : Int) == 33) = false := by rw [e1, beq_eq_false_iff_ne]; omega
        have q3 : (((s[1]).toNat : Int) == 63) = false := by rw [e1, beq_eq_false_iff_ne]; omega
        generalize hcc : s[1] = cc at *
        clear hst h11 hc hc2 e1
        go_wp2_with fail
        refine (beginning_any HS.out hl h2).mono ?_
        rintro e W2 ⟨A, c', rfl, hcap, hrd, b2⟩
        rw [World.size_alloc] at b2 hrd
        have h3 := (b2.block w.heap.size (by omega)).trans H1.out
        obtain ⟨⟨c0, c1, c2, c3⟩, ⟨f0, f1, f2, f3⟩⟩ := outCells h3
        have B2 := ba.trans (b2.mono (by omega))
        unfold tkv
        clear b2
        go_wp2
        refine ret_tok rfl rfl rfl rfl (tok_stored h3 _ _ _ _) ⟨A, c', by rw [HR.out]; rfl, ?_, tok_below B2 (Nat.le_refl _) _ _ _ _⟩
        rw [HR.out]
        exact ⟨hcap, (hrd.keep (fun p hp => tok_cell _ _ _ _ p (by omega))).more (fun b hb => ⟨by omega, by rw [tok_size]; exact hb.2⟩)⟩
end Go.Proofs.YtnkelhmjkmeilaaGreatDoor
end
