/- The package build: shut. A map's entry less. -/
import Derived.Test.YtlfkipilgdeemaaK5
import Derived.Maps.OwnSet
namespace Go.Proofs.Ytlfkipilgdeemaa
open Go.RowKit Go.Maps Go.WideMaps
open Go.ChangeMaps (setBlock heap_setBlock_same heap_setBlock_other modify_eq_set)

section
variable {P : Program} {k : TypeId} {w w' : World} {b n : Nat} {f : Value → Option Value}
/-- 'delete(m, key)' -/
theorem MapIs.del (h : MapIs P k w b n f) (K : Keyed P k) {t e : TypeId} (ht : P.underlying t = some (.map k e)) {key : Value} {kl : Lit} (hkey : keyOf P k key = some kl) {f' : Value → Option Value} (g1 : f' key = none) (g2 : ∀ x, x ≠ key → f' x = f x) (ty : TypeId) :
    ∃ w', (Builtin.delete_ #[t, k] ty #[.map (some b), key]).run P w = .ok (.tuple #[]) w' ∧ MapIs P k w' b n f' ∧ w.grownBy w' (some b) := by
  obtain ⟨es, clock, hb, hn, hk, hd, h1, h2⟩ := h
  have hgrow : ∀ o, w.grownBy (setBlock w b o) (some b) := fun o => ⟨rfl, rfl, rfl, by simp [setBlock], fun i _ hi => heap_setBlock_other hb _ (fun e => hi (by rw [e]))⟩
  rcases K.find w hkey es.toList hk with ⟨hf, hne⟩ | ⟨j, e0, hf, hj, he⟩
  · refine ⟨setBlock w b (.map es clock), ?_, ⟨es, clock, heap_setBlock_same hb _, hn, hk, hd, ?_, ?_⟩, hgrow _⟩
    · simp [Builtin.delete_, run_underlying ht, MapKept.run_getObj_map hb, K.check w _ hkey, hf, MapKept.run_setObj_map _ hb, Result.andThen, setBlock]
    · intro x hx
      rw [g2 _ (hne x hx)]; exact h1 x hx
    · intro x v hx
      by_cases hxk : x = key
      · subst hxk; rw [g1] at hx; cases hx
      · rw [g2 x hxk] at hx; exact h2 x v hx
  · have hjl : j < es.toList.length := (List.getElem?_eq_some_iff.1 hj).1
    have hlist : (es.eraseIdxIfInBounds j).toList = es.toList.eraseIdx j := by simp
    have hother : ∀ i x, es.toList[i]? = some x → i ≠ j → x.key ≠ key := by
      intro i x hx hij e1
      have hil := (List.getElem?_eq_some_iff.1 hx).1
      rw [List.getElem?_eq_getElem hil] at hx
      rw [List.getElem?_eq_getElem hjl] at hj
      have hx' := Option.some.inj hx
      have hj'' := Option.some.inj hj
      rcases Nat.lt_or_gt_of_ne hij with h | h
      · exact (List.pairwise_iff_getElem.1 hd i j hil hjl h) (by rw [hx', hj'', e1, he])
      · exact (List.pairwise_iff_getElem.1 hd j i hjl hil h) (by rw [hx', hj'', e1, he])
    refine ⟨setBlock w b (.map (es.eraseIdxIfInBounds j) clock), ?_, ⟨es.eraseIdxIfInBounds j, clock, heap_setBlock_same hb _, ?_, ?_, ?_, ?_, ?_⟩, hgrow _⟩
    · simp [Builtin.delete_, run_underlying ht, MapKept.run_getObj_map hb, K.check w _ hkey, hf, MapKept.run_setObj_map _ hb, Result.andThen, setBlock]
    · have : (es.eraseIdxIfInBounds j).toList.length ≤ es.toList.length := by rw [hlist]; exact (List.eraseIdx_sublist _ _).length_le
      simp only [Array.length_toList] at this
      omega
    · intro x hx
      rw [hlist] at hx
      exact hk x (List.mem_of_mem_eraseIdx hx)
    · rw [hlist]
      exact hd.sublist (List.eraseIdx_sublist _ _)
    · intro x hx
      rw [hlist] at hx
      obtain ⟨i, hi, hx2⟩ := List.mem_eraseIdx_iff_getElem?.1 hx
      rw [g2 _ (hother i x hx2 hi)]
      exact h1 x (List.mem_of_getElem? hx2)
    · intro x v hx
      rw [hlist]
      by_cases hxk : x = key
      · subst hxk; rw [g1] at hx; cases hx
      · rw [g2 x hxk] at hx
        obtain ⟨e, hm, h3, h4⟩ := h2 x v hx
        obtain ⟨i, hi⟩ := List.mem_iff_getElem?.1 hm
        refine ⟨e, List.mem_eraseIdx_iff_getElem?.2 ⟨i, ?_, hi⟩, h3, h4⟩
        rintro rfl
        rw [hj] at hi
        have := Option.some.inj hi
        subst this
        exact hxk (h3.symm.trans he)
theorem wpList_mapdel {ops : Array Oper} {rest : List Oper} {o : Oper} {a : Act} {Q : Exit → Act → World → Prop} (hg : o.guard = none) (m x : Operand) (t : TypeId) (hop : o.op = Op.call { callee := Callee.builtin Builtin.delete, args := #[m, x], argTypes := #[t, k] })
    {e : TypeId} (K : Keyed P k) (ht : P.underlying t = some (.map k e)) (hm : a.eval m = .map (some b)) (h : MapIs P k w b n f) (key : Value) (kl : Lit) (hx : a.eval x = key) (hkey : keyOf P k key = some kl)
    (f' : Value → Option Value) (g1 : f' key = none) (g2 : ∀ x, x ≠ key → f' x = f x) (hK : ∀ w', MapIs P k w' b n f' → w.grownBy w' (some b) → wpList P ops Q rest (a.put o.dst (.tuple #[])) w') :
    wpList P ops Q (o :: rest) a w := by
  refine wpList_plain hg fun K' hK' => ?_
  obtain ⟨w', hrun, r1, r2⟩ := h.del K ht hkey g1 g2 o.type
  unfold Oper.wp
  simp [execOp, hop, resolve, invoke, builtin, hm, hx, hrun, Result.andThen]
  exact hK' _ _ (hK w' r1 r2)
end

/-- .. where l stands for v -/
def upF (f : Value → Option Value) (l : List UInt8) (v : Value) (y : Value) : Option Value := match y with
  | .string s => if s.data.toList = l then some v else f y
  | _ => f y
theorem upF_new (f : Value → Option Value) (l : List UInt8) (v : Value) : upF f l v (.string ⟨l.toArray⟩) = some v := by simp [upF]
theorem upF_old (f : Value → Option Value) (l : List UInt8) (v y : Value) (h : y ≠ .string ⟨l.toArray⟩) : upF f l v y = f y := by
  unfold upF
  split
  · rename_i s
    rw [if_neg]
    intro e
    exact h (by rw [(show IsStr s l from e).to])
  · rfl

set_option maxHeartbeats 2000000 in
set_option maxRecDepth 100000 in
/-- shut -/
theorem shut_any {w : World} {own : Own} {base bb mm N : Nat} {g : Sto} {outs bs : List Nat} {b : Nat} {f : Value → Option Value} (h : MI w own base bb mm N g outs (b :: bs) f) {r : Rc} (hr : g b = some r) (hN : N ≤ 1000)
    {c : Nat} (hc : c ≤ 1000000) (hf : f (.string ⟨r.name.toArray⟩) = some (.int .i64 ((c : Int) + 1))) {f' : Value → Option Value} (g1 : f' (.string ⟨r.name.toArray⟩) = if c = 0 then none else some (.int .i64 c)) (g2 : ∀ y, y ≠ .string ⟨r.name.toArray⟩ → f' y = f y) :
    Calls Try.prog 31 #[.pointer (some ⟨bb, 0, none⟩)] w fun e w' => e = .returned (.string ⟨r.name.toArray⟩) ∧ Below base w w' ∧ Frm own w w' ∧ MI w' own base bb mm N g outs bs f' := by
  have hnm := (h.recs b r hr).nm
  obtain ⟨A0, n0, c0, TV, KV, hrec, _⟩ := (h.recs b r hr).cells
  have hcn := Lib.cell_of_heap hrec 1
  simp only [List.getElem?_toArray, List.getElem?_cons_zero, List.getElem?_cons_succ, sv] at hcn
  have hkey : keyOf Try.prog 9 (.string ⟨r.name.toArray⟩) = some (.string r.name) := keyOf_string_mk Try.underlying9 (by unfold maxLen; show r.name.toArray.size ≤ _; simp; omega)
  have hz : ∀ w, (zeroValue 3).run Try.prog w = .ok (.int .i64 0) w := fun w => by kernel_rfl
  have hlen := h.fewP
  have hb0 := (h.lt bb _ h.me).1
  have hm0 := (h.lt mm _ h.cnt).1
  obtain ⟨A, n, cp, c1, hn, hnc, hcm, c2, c3, c4, hM⟩ := h.pop
  simp only [List.length_cons] at hlen
  have hn1 : n ≤ 1000 := by omega
  have B1 : Below base w (w.setCell ⟨bb, 1, none⟩ (.slice (some ⟨A, 0, none⟩) n cp)) := (Below.refl _ _).setCell (p := ⟨bb, 1, none⟩) hb0 _
  obtain ⟨nm, m1⟩ := hM.map
  have hl1 := m1.look keyS Try.underlying42 (hz _) hkey false
  rw [hf] at hl1
  simp only [] at hl1
  have HK := Lib.hid hkey
  have HN := Lib.hid hn
  have HR := Lib.hid hrec
  have HF := Lib.hid hf
  have HG1 := Lib.hid g1
  have HG2 := Lib.hid g2
  clear hkey hn hrec hf g1 g2 hlen hr h
  generalize r.name = key at *
  go_enter Try.func31, Try.ntmps31
  go_wp2_with (at_mapUpdate; go_must (refine wpList_mapset rfl _ _ _ _ (.inl rfl) keyS Try.underlying42 rfl m1 _ _ _ rfl rfl HK.out (upF f key (.int .i64 c)) (upF_new f key _) (fun y hy => upF_old f key _ y hy) ?_)) 
  intro w2 m2 gr2
  have hM2 := hM.mapped m2 gr2
  have B2 : Below base w w2 := B1.trans ((Below.refl _ _).grown gr2 (by have := (hM.lt mm _ hM.cnt); omega) (fun k hk => by injection hk with hk; omega))
  have hl2 := m2.look keyS Try.underlying42 (hz _) HK.out false
  rw [upF_new] at hl2
  simp only [] at hl2
  have k2 : w2.cell? ⟨bb, 2, none⟩ = some (.map (some mm)) := by
    obtain ⟨OV, PV, hb, _⟩ := hM2.blk
    rw [Lib.cell_of_heap hb]; rfl
  have F2 : Frm own w w2 := fun q hq hl => by
    rw [gr2.block q (by rw [size_set]; exact hl) (fun e => by injection e with e; subst e; rw [hM.cnt] at hq; cases hq)]
    exact heap_setCell_other (p := ⟨bb, 1, none⟩) (fun e => by simp only [] at e; subst e; rw [hM.me] at hq; cases hq)
  have hS2 := B2.size
  have HM2 := Lib.hid hM2
  clear hM hM2 gr2 hl1 m1 c1 c2 c3 c4 hcn B1
  by_cases h0 : c = 0
  · subst h0
    have H0 := Lib.hid (show f' (.string ⟨key.toArray⟩) = none by rw [HG1.out]; rfl)
    go_wp2_with (at_delete; go_must (refine wpList_mapdel rfl _ _ _ rfl keyS Try.underlying42 rfl m2 (.string ⟨key.toArray⟩) _ rfl HK.out f' H0.out (fun y hy => by rw [upF_old f key _ y hy]; exact HG2.out y hy) ?_))
    intro w3 m3 gr3
    have hM3 := HM2.out.mapped m3 gr3
    have B3 := B2.grown gr3 (by have := (HM2.out.lt mm _ HM2.out.cnt); omega) (fun k hk => by injection hk with hk; omega)
    have F3 : Frm own w w3 := F2.trans hS2 (fun q hq hl => gr3.block q hl (fun e => by injection e with e; subst e; rw [HM2.out.cnt] at hq; cases hq))
    clear gr3 m2 m3 hl2 k2
    go_wp2
    go_ret
    exact ⟨rfl, B3, F3, hM3⟩
  · have hff : f' = upF f key (.int .i64 c) := by
      funext y
      by_cases hy : y = .string ⟨key.toArray⟩
      · subst hy
        rw [HG1.out, upF_new, if_neg h0]
      · rw [HG2.out y hy, upF_old f key _ y hy]
    have q0 : ((c : Int) == 0) = false := by rw [beq_eq_false_iff_ne]; omega
    have HFF := Lib.hid hff
    clear hff h0
    go_wp2
    go_ret
    exact ⟨rfl, B2, F2, HFF.out ▸ HM2.out⟩
end Go.Proofs.Ytlfkipilgdeemaa
