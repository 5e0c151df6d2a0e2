/- Rows of nodes and of attributes that a call makes itself: what lies beneath them stays apart from them. -/
import Derived.Test.YtbipdnnalhdoaaaNd
import Derived.Test.YtbipdnnalhdoaaaProg
import Derived.KernelRfl
namespace Go.Proofs.Ytbipdnnalhdoaaa
open Go.RowKit

section
variable {P : Program} {w : World} {ops : Array Oper} {rest : List Oper} {o : Oper} {a : Act} {Q : Exit → Act → World → Prop}
/-- 'out = append(out, x)', and where the new row lies -/
theorem wpList_push_at (hgd : o.guard = none) (s x : Operand) (t : TypeId) (ho : o.op = .call { callee := .builtin .append, args := #[s, x], argTypes := #[t, t] })
    (base : Nat) {e : TypeId} {size bytes : Nat} (R : Row P t e size bytes) (A : Option Addr) (n c : Nat) (xs : List Value) (hs : a.eval s = .slice A n c) (hown : w.ownsRow base e size (.slice A n c) n xs)
    (cs : List Value) (c1 : Nat) (hx : a.eval x = .slice (some ⟨w.heap.size, 0, none⟩) 1 c1) (hl : cs.length = size) (h1 : ∀ u ∈ cs, u.oneCell' = true)
    (h63 : n + 1 ≤ maxLen) (hbytes : (n + 1) * bytes ≤ 140737488355328) (hbase : base ≤ w.heap.size)
    (h : ∀ A' c' w', n + 1 ≤ c' → w'.ownsRow base e size (.slice A' (n + 1) c') (n + 1) (xs ++ cs) → w.grownBy w' (Value.slice A n c).ownBlock →
      (∀ g, (Value.slice A' (n + 1) c').ownBlock = some g → (Value.slice A n c).ownBlock = some g ∨ w.heap.size ≤ g) → wpList P ops Q rest (a.put o.dst (.slice A' (n + 1) c')) w') :
    wpList P ops Q (o :: rest) a (w.alloc (.cells cs.toArray e)) := by
  obtain ⟨i, z, hi, hz, hsize, hby, hzs⟩ := R.ex
  have hcell : ∀ j u, cs[j]? = some u → (w.alloc (.cells cs.toArray e)).cell? ((⟨w.heap.size, 0, none⟩ : Addr).add j) = some u := fun j u hu =>
    World.news_of_block (fr := (0, 0)) (heap_alloc_new w _) j u (by simpa using hu)
  refine wpList_append_own_at _ hgd s x t ho base e i z size bytes R.und hi hz hsize hby hzs R.pos _ n xs hs (hown.alloc _) ⟨w.heap.size, 0, none⟩ 1 c1 cs hx (by simpa using hl) hcell h1 h63 hbytes (by simp; omega) ?_
  intro v' w' h2 h3 _ h4
  obtain ⟨A', c', rfl, hc'⟩ := own_shape h2
  refine h A' c' w' hc' h2 ⟨h3.os, h3.tape, h3.output, Nat.le_trans (by simp) h3.size, fun k hk hne => ?_⟩ (fun g hg => ?_)
  · exact (h3.block k (by simp; omega) hne).trans (Below.heap_alloc w _ k hk)
  · rcases h4 with h4 | h4
    · exact .inl (h4 ▸ hg)
    · rw [h4] at hg
      injection hg with hg
      simp at hg
      exact .inr (by omega)
/-- .. at a step of a region that draws its order -/
theorem step_push {K : Act → World → Prop} {E : Prop} (hgd : o.guard = none) (s x : Operand) (t : TypeId) (ho : o.op = .call { callee := .builtin .append, args := #[s, x], argTypes := #[t, t] })
    (base : Nat) {e : TypeId} {size bytes : Nat} (R : Row P t e size bytes) (A : Option Addr) (n c : Nat) (xs : List Value) (hs : a.eval s = .slice A n c) (hown : w.ownsRow base e size (.slice A n c) n xs)
    (g c1 : Nat) (cs : Array Value) (hx : a.eval x = .slice (some ⟨g, 0, none⟩) 1 c1) (hg : w.heap[g]? = some (.cells cs e (0, 0))) (hl : cs.size = size) (h1 : ∀ u ∈ cs.toList, u.oneCell' = true)
    (h63 : n + 1 ≤ maxLen) (hbytes : (n + 1) * bytes ≤ 140737488355328) (hbase : base ≤ w.heap.size)
    (h : ∀ A' c' w', n + 1 ≤ c' → w'.ownsRow base e size (.slice A' (n + 1) c') (n + 1) (xs ++ cs.toList) → w.grownBy w' (Value.slice A n c).ownBlock →
      (∀ g, (Value.slice A' (n + 1) c').ownBlock = some g → (Value.slice A n c).ownBlock = some g ∨ w.heap.size ≤ g) → K (a.put o.dst (.slice A' (n + 1) c')) w') :
    if Region.wanted o (yielded ops a.tmps) = true then Oper.wp P o a w K Q else E := by
  have hw : Region.wanted o (yielded ops a.tmps) = true := by simp [Region.wanted, hgd]
  rw [if_pos hw]
  obtain ⟨i, z, hi, hz, hsize, hby, hzs⟩ := R.ex
  obtain ⟨v', w', hr, h2, h3, h4, h5⟩ := run_append_own_at (P := P) w base t o.type e i z size bytes R.und hi hz hsize hby hzs R.pos _ n xs hown ⟨g, 0, none⟩ 1 c1 cs.toList (by simpa using hl) (World.news_of_block hg) h1 h63 hbytes hbase
  obtain ⟨A', c', rfl, hc'⟩ := own_shape h2
  unfold Oper.wp execOp
  simp only [ho, resolve, invoke, builtin, Sem.run_bind, Sem.run_pure, Result.andThen_ok, List.map_toArray, List.map_cons, List.map_nil, hs, hx, hr]
  refine h A' c' w' hc' h2 h3 (fun g' hg' => ?_)
  rcases h5 with h5 | h5
  · exact .inl (h5 ▸ hg')
  · rw [h5] at hg'
    injection hg' with hg'
    exact .inr (by omega)
end

theorem size_setCell (w : World) (p : Addr) (u : Value) : (w.setCell p u).heap.size = w.heap.size := by simp [World.setCell]

/-- beneath an own row: blocks from lo on that are not the row's -/
abbrev Apart (lo : Nat) (w : World) (v : Value) : Nat → Prop := fun b => lo ≤ b ∧ b < w.heap.size ∧ v.ownBlock ≠ some b
theorem push_nodes {lo : Nat} {w w' : World} {v v' : Value} {l : List Nd} {xs : List Value} (h : NsIsP w (Apart lo w v) l xs) (hg : w.grownBy w' v.ownBlock)
    (hv : ∀ g, v'.ownBlock = some g → v.ownBlock = some g ∨ w.heap.size ≤ g) : NsIsP w' (Apart lo w' v') l xs := by
  refine NsIsP.more (S := Apart lo w v) ?_ (NsIsP.keep ?_ h)
  · rintro b ⟨h1, h2, h3⟩
    refine ⟨h1, Nat.lt_of_lt_of_le h2 hg.size, fun e => ?_⟩
    rcases hv b e with h4 | h4
    · exact h3 h4
    · omega
  · rintro p ⟨h1, h2, h3⟩
    exact World.cell?_of_block (hg.block p.block h2 (fun e => h3 e.symm))
theorem below_nodes {lo : Nat} {w w' : World} {v : Value} {l : List Nd} {xs : List Value} (h : NsIsP w (Apart lo w v) l xs) (hb : Below w.heap.size w w') : NsIsP w' (Apart lo w' v) l xs := by
  refine NsIsP.more (S := Apart lo w v) ?_ (NsIsP.keep ?_ h)
  · rintro b ⟨h1, h2, h3⟩
    exact ⟨h1, Nat.lt_of_lt_of_le h2 hb.size, h3⟩
  · rintro p ⟨h1, h2, h3⟩
    exact hb.cell h2
theorem nodes_of_own {lo : Nat} {w : World} {A : Option Addr} {c n : Nat} {e : TypeId} {l : List Nd} {xs : List Value} (ho : w.ownsRow lo e 5 (.slice A n c) n xs) (h : NsIsP w (Apart lo w (.slice A n c)) l xs) :
    NodesP w (fun b => lo ≤ b ∧ b < w.heap.size) A n l :=
  ⟨xs, RdP.of_own ho, NsIsP.more (fun _ hb => ⟨hb.1, hb.2.1⟩) h⟩

end Go.Proofs.Ytbipdnnalhdoaaa
