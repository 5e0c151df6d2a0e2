/- A map of the call's own, told by a plain function of its keys: look-ups and stores. No condition. -/
import Derived.Test.YtbipdnnalhdoaaaMem
import Derived.Maps.Keyed
import Derived.Maps.Own
namespace Go.Proofs.Ytbipdnnalhdoaaa
open Go.RowKit Go.Maps
open Go.ChangeMaps (setBlock heap_setBlock_same heap_setBlock_other modify_eq_set)

/-- BLOCK b OF w IS A MAP (its keys of type k) OF AT MOST n ENTRIES: 'f key' is what it holds. -/
def MapIs (P : Program) (k : TypeId) (w : World) (b n : Nat) (f : Value → Option Value) : Prop :=
  ∃ es clock, w.heap[b]? = some (.map es clock) ∧ es.size ≤ n ∧ (∀ e ∈ es.toList, ∃ l, keyOf P k e.key = some l) ∧ es.toList.Pairwise (fun x y => x.key ≠ y.key) ∧
    (∀ e ∈ es.toList, f e.key = some e.val) ∧ ∀ key v, f key = some v → ∃ e ∈ es.toList, e.key = key ∧ e.val = v

section
variable {P : Program} {k : TypeId} {w w' : World} {b n : Nat} {f : Value → Option Value}
theorem MapIs.made (P : Program) (k : TypeId) (w : World) : MapIs P k (w.alloc (.map #[] 0)) w.heap.size 0 (fun _ => none) :=
  ⟨#[], 0, heap_alloc_new w _, by simp, by simp, by simp, by simp, by simp⟩
theorem MapIs.lt (h : MapIs P k w b n f) : b < w.heap.size := by
  obtain ⟨es, clock, hb, _⟩ := h
  exact (Array.getElem?_eq_some_iff.1 hb).1
theorem MapIs.block (h : MapIs P k w b n f) (hb : w'.heap[b]? = w.heap[b]?) : MapIs P k w' b n f := by
  obtain ⟨es, clock, h1, rest⟩ := h
  exact ⟨es, clock, hb.trans h1, rest⟩
theorem MapIs.below {B : Nat} (h : MapIs P k w b n f) (hb : Below B w w') (hB : b < B) : MapIs P k w' b n f := h.block (hb.block b hB)
theorem MapIs.alloc (h : MapIs P k w b n f) (o : Obj) : MapIs P k (w.alloc o) b n f := h.block (Below.heap_alloc w o b h.lt)
theorem MapIs.drew (h : MapIs P k w b n f) : MapIs P k w.drew b n f := h
theorem MapIs.drewN (h : MapIs P k w b n f) (m : Nat) : MapIs P k (w.drewN m) b n f := h
theorem MapIs.setCell (h : MapIs P k w b n f) {p : Addr} (hp : b ≠ p.block) (v : Value) : MapIs P k (w.setCell p v) b n f := h.block (Below.heap_setCell w p v b hp)
theorem MapIs.grown {row : Option Nat} (h : MapIs P k w b n f) (hg : w.grownBy w' row) (hne : some b ≠ row) : MapIs P k w' b n f := h.block (hg.block b h.lt hne)
/-- a row of cells is another block -/
theorem MapIs.own_ne {base z m : Nat} {e : TypeId} {v : Value} {xs : List Value} (h : MapIs P k w b n f) (ho : w.ownsRow base e z v m xs) : some b ≠ v.ownBlock := by
  obtain ⟨es, clock, hb, _⟩ := h
  rcases ho.2 with ⟨rfl, _⟩ | ⟨g, cap, cur, rfl, _, hh, _⟩
  · simp [Value.ownBlock]
  · intro e1
    have : b = g := by simpa [Value.ownBlock] using e1
    subst this
    rw [hh] at hb
    cases hb

/-- 'm[key]', 'v, ok := m[key]' -/
theorem MapIs.look (h : MapIs P k w b n f) (K : Keyed P k) {t e : TypeId} (ht : P.underlying t = some (.map k e)) {z : Value} (hz : (zeroValue e).run P w = .ok z w) {key : Value} {kl : Lit} (hkey : keyOf P k key = some kl) (c : Bool) :
    (Instr.lookup t (.map (some b)) key c).run P w = .ok (match f key with
      | none => if c then .tuple #[z, .bool false] else z
      | some v => if c then .tuple #[v, .bool true] else v) w := by
  obtain ⟨es, clock, hb, _, hk, _, h1, h2⟩ := h
  rcases K.find w hkey es.toList hk with ⟨hf, hne⟩ | ⟨j, e0, hf, hj, he⟩
  · have : f key = none := by
      cases hfk : f key with
      | none => rfl
      | some v =>
        obtain ⟨e, hm, he, _⟩ := h2 key v hfk
        exact absurd he (hne e hm)
    rw [this]
    simp [Instr.lookup, run_underlying ht, MapKept.run_getObj_map hb, K.check w _ hkey, hf, hz, Result.andThen]
  · have hm : e0 ∈ es.toList := List.mem_of_getElem? hj
    rw [← he, h1 e0 hm]
    rw [he]
    cases c <;> simp [Instr.lookup, run_underlying ht, MapKept.run_getObj_map hb, K.check w _ hkey, hf, Result.andThen]

/-- 'm[key] = val' -/
theorem MapIs.set (h : MapIs P k w b n f) (K : Keyed P k) {t e : TypeId} (ht : P.underlying t = some (.map k e)) {key val : Value} {kl : Lit} (hkey : keyOf P k key = some kl) {f' : Value → Option Value} (g1 : f' key = some val) (g2 : ∀ x, x ≠ key → f' x = f x) :
    ∃ w', (Instr.mapUpdate t (.map (some b)) key val).run P w = .ok () w' ∧ MapIs P k w' b (n + 1) f' ∧ w.grownBy w' (some b) := by
  obtain ⟨es, clock, hb, hn, hk, hd, h1, h2⟩ := h
  have hgrow : ∀ o, w.grownBy (setBlock w b o) (some b) := fun o => ⟨rfl, rfl, rfl, by simp [setBlock], fun i _ hi => heap_setBlock_other hb _ (fun e => hi (by rw [e]))⟩
  rcases K.find w hkey es.toList hk with ⟨hf, hne⟩ | ⟨j, e0, hf, hj, he⟩
  · refine ⟨setBlock w b (.map (es.push ⟨key, val, clock⟩) (clock + 1)), ?_, ⟨es.push ⟨key, val, clock⟩, clock + 1, heap_setBlock_same hb _, by simp; omega, ?_, ?_, ?_, ?_⟩, hgrow _⟩
    · simp [Instr.mapUpdate, run_underlying ht, MapKept.run_getObj_map hb, K.check w false hkey, hf, MapKept.run_setObj_map _ hb, Result.andThen, setBlock]
    · intro x hx
      simp only [Array.toList_push, List.mem_append, List.mem_singleton] at hx
      rcases hx with hx | rfl
      · exact hk x hx
      · exact ⟨kl, hkey⟩
    · simp only [Array.toList_push]
      rw [List.pairwise_append]
      refine ⟨hd, by simp, fun x hx y hy => ?_⟩
      rw [List.mem_singleton] at hy
      subst hy
      exact hne x hx
    · intro x hx
      simp only [Array.toList_push, List.mem_append, List.mem_singleton] at hx
      rcases hx with hx | rfl
      · rw [g2 _ (hne x hx)]; exact h1 x hx
      · exact g1
    · intro x v hx
      simp only [Array.toList_push, List.mem_append, List.mem_singleton]
      by_cases hxk : x = key
      · subst hxk
        rw [g1] at hx
        exact ⟨⟨x, val, clock⟩, .inr rfl, rfl, Option.some.inj hx⟩
      · rw [g2 x hxk] at hx
        obtain ⟨e, hm, h3⟩ := h2 x v hx
        exact ⟨e, .inl hm, h3⟩
  · have hj' : es[j]? = some e0 := by simpa using hj
    have hjl : j < es.toList.length := (List.getElem?_eq_some_iff.1 hj).1
    have hlist : (es.modify j (fun e' => { e' with key := key, val := val })).toList = es.toList.set j { e0 with key := key, val := val } := by rw [Array.toList_modify, modify_eq_set _ _ _ _ hj]
    have hstay : Sem.run P (Instr.keyThatStays (((es[j]?).map (·.key)).getD key) key) w = .ok key w := by
      rw [hj']
      simp only [Option.map_some, Option.getD_some, he]
      exact K.stays w hkey
    have hother : ∀ i x, es.toList[i]? = some x → i ≠ j → x.key ≠ key := by
      intro i x hx hij e1
      have hil := (List.getElem?_eq_some_iff.1 hx).1
      rw [List.getElem?_eq_getElem hil] at hx
      rw [List.getElem?_eq_getElem hjl] at hj
      have hx' := Option.some.inj hx
      have hj'' := Option.some.inj hj
      rcases Nat.lt_or_gt_of_ne hij with h | h
      · exact (List.pairwise_iff_getElem.1 hd i j hil hjl h) (by rw [hx', hj'', e1, he])
      · exact (List.pairwise_iff_getElem.1 hd j i hjl hil h) (by rw [hx', hj'', e1, he])
    have hmem : ∀ x, x ∈ es.toList.set j { e0 with key := key, val := val } → x = { e0 with key := key, val := val } ∨ (x ∈ es.toList ∧ x.key ≠ key) := by
      intro x hx
      obtain ⟨i, hi⟩ := List.mem_iff_getElem?.1 hx
      rw [List.getElem?_set] at hi
      split at hi
      · left
        first
          | exact (Option.some.inj hi).symm
          | (split at hi
             · exact (Option.some.inj hi).symm
             · cases hi)
      · rename_i hij
        exact .inr ⟨List.mem_of_getElem? hi, hother i x hi (Ne.symm hij)⟩
    refine ⟨setBlock w b (.map (es.modify j (fun e' => { e' with key := key, val := val })) clock), ?_, ⟨es.modify j (fun e' => { e' with key := key, val := val }), clock, heap_setBlock_same hb _, by simp; omega, ?_, ?_, ?_, ?_⟩, hgrow _⟩
    · simp [Instr.mapUpdate, run_underlying ht, MapKept.run_getObj_map hb, K.check w false hkey, hf, hstay, MapKept.run_setObj_map _ hb, Result.andThen, setBlock]
    · intro x hx
      rw [hlist] at hx
      rcases hmem x hx with rfl | ⟨hx, _⟩
      · exact ⟨kl, hkey⟩
      · exact hk x hx
    · rw [hlist]
      have hset : (es.toList.set j { e0 with key := key, val := val }).map (·.key) = es.toList.map (·.key) := by
        rw [List.map_set]
        apply List.ext_getElem?
        intro i
        rw [List.getElem?_set]
        split
        · rename_i hij
          subst hij
          rw [if_pos (by simpa using hjl), List.getElem?_map, hj]
          simp [he]
        · rfl
      have h3 : (es.toList.map (·.key)).Pairwise (· ≠ ·) := List.pairwise_map.2 hd
      rw [← hset] at h3
      exact List.pairwise_map.1 h3
    · intro x hx
      rw [hlist] at hx
      rcases hmem x hx with rfl | ⟨hx, hne⟩
      · exact g1
      · rw [g2 _ hne]; exact h1 x hx
    · intro x v hx
      rw [hlist]
      by_cases hxk : x = key
      · subst hxk
        rw [g1] at hx
        refine ⟨{ e0 with key := x, val := val }, List.mem_iff_getElem?.2 ⟨j, by rw [List.getElem?_set, if_pos rfl, if_pos hjl]⟩, rfl, Option.some.inj hx⟩
      · rw [g2 x hxk] at hx
        obtain ⟨e, hm, h3, h4⟩ := h2 x v hx
        obtain ⟨i, hi⟩ := List.mem_iff_getElem?.1 hm
        refine ⟨e, List.mem_iff_getElem?.2 ⟨i, ?_⟩, h3, h4⟩
        rw [List.getElem?_set, if_neg, hi]
        rintro rfl
        rw [hj] at hi
        have := Option.some.inj hi
        subst this
        exact hxk (h3.symm.trans he)

theorem wpList_mapset {ops : Array Oper} {rest : List Oper} {o : Oper} {a : Act} {Q : Exit → Act → World → Prop} (hg : o.guard = none) (m x v : Operand) (t : TypeId) (hop : o.op = Op.mapUpdate t m x v ∨ o.op = Op.insert t m x v)
    {e : TypeId} (K : Keyed P k) (ht : P.underlying t = some (.map k e)) (hm : a.eval m = .map (some b)) (h : MapIs P k w b n f) (key val : Value) (kl : Lit) (hx : a.eval x = key) (hv : a.eval v = val) (hkey : keyOf P k key = some kl)
    (f' : Value → Option Value) (g1 : f' key = some val) (g2 : ∀ x, x ≠ key → f' x = f x) (hK : ∀ w', MapIs P k w' b (n + 1) f' → w.grownBy w' (some b) → wpList P ops Q rest (a.put o.dst undef) w') :
    wpList P ops Q (o :: rest) a w := by
  refine wpList_plain hg fun K' hK' => ?_
  obtain ⟨w', hrun, r1, r2⟩ := h.set K ht hkey g1 g2
  unfold Oper.wp
  rcases hop with hop | hop
  · simp [execOp, hop, hm, hx, hv, hrun, Result.andThen]
    exact hK' _ _ (hK w' r1 r2)
  · simp [execOp, hop, hm, hx, hv, hrun, Result.andThen]
    exact hK' _ _ (hK w' r1 r2)
end
end Go.Proofs.Ytbipdnnalhdoaaa
