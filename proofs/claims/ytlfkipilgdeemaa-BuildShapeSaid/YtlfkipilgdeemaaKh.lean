/- Plain: no text of a tree is empty, or stands beside another one; a void element has no kids; no kid closes its parent. -/
import Derived.Test.YtlfkipilgdeemaaK1
namespace Go.Proofs.Ytlfkipilgdeemaa

mutual
/-- a node has its shape, in a parent, behind a text or not -/
def sh1 : Nd → List UInt8 → Bool → Prop
  | .mk k nm _ tx kids, p, b => (k = 1 → closesL p nm = false) ∧ (k = 2 → tx ≠ [] ∧ b = false) ∧ (voidL nm = true → kids = []) ∧ shL kids nm false
def shL : List Nd → List UInt8 → Bool → Prop
  | [], _, _ => True
  | n :: l, p, b => sh1 n p b ∧ shL l p (n.kind == 2)
end
/-- is the last one a text? -/
def ltx (b : Bool) : List Nd → Bool
  | [] => b
  | n :: l => ltx (n.kind == 2) l
theorem shL_append : ∀ (l m : List Nd) (p : List UInt8) (b : Bool), shL (l ++ m) p b ↔ shL l p b ∧ shL m p (ltx b l)
  | [], m, p, b => by simp [shL, ltx]
  | n :: l, m, p, b => by
    simp only [List.cons_append, shL, ltx, shL_append l m]
    exact and_assoc.symm
theorem shL_snoc (l : List Nd) (n : Nd) (p : List UInt8) (b : Bool) : shL (l ++ [n]) p b ↔ shL l p b ∧ sh1 n p (ltx b l) := by
  rw [shL_append]; simp [shL]
def topN : Frs → List UInt8
  | [] => []
  | (_, h) :: _ => h.1
def FrsOk : Frs → Prop
  | [] => True
  | (k, h) :: fs => voidL h.1 = false ∧ closesL (topN fs) h.1 = false ∧ shL k (topN fs) false ∧ FrsOk fs
def ZOk (z : Zp) : Prop := FrsOk z.fr ∧ shL z.last (topN z.fr) false
theorem sh_elem {p : List UInt8} {h : Hd} {l : List Nd} (b : Bool) (h1 : closesL p h.1 = false) (h2 : voidL h.1 = true → l = []) (h3 : shL l h.1 false) : sh1 (elemN h l) p b := by
  simp only [elemN, sh1]
  exact ⟨fun _ => h1, fun e => by simp at e, h2, h3⟩
theorem ZOk.shut {k : List Nd} {h : Hd} {fs : Frs} {l : List Nd} (hz : ZOk ⟨(k, h) :: fs, l⟩) : ZOk ⟨fs, k ++ [elemN h l]⟩ := by
  obtain ⟨⟨h1, h2, h3, h4⟩, h5⟩ := hz
  exact ⟨h4, (shL_snoc _ _ _ _).2 ⟨h3, sh_elem _ h2 (fun e => by rw [h1] at e; cases e) h5⟩⟩
theorem popWhile_ok (nm : List UInt8) : ∀ (fs : Frs) (l : List Nd), ZOk ⟨fs, l⟩ → ZOk (popWhile nm fs l) ∧ closesL (topN (popWhile nm fs l).fr) nm = false
  | [], l, h => ⟨h, by rfl⟩
  | (k, h) :: fs, l, hz => by
    simp only [popWhile]
    split
    · exact popWhile_ok nm fs _ hz.shut
    · rename_i hc
      exact ⟨hz, by simpa [topN] using hc⟩
theorem popTo_ok (nm : List UInt8) : ∀ (fs : Frs) (l : List Nd), ZOk ⟨fs, l⟩ → ZOk (popTo nm fs l)
  | [], l, h => h
  | (k, h) :: fs, l, hz => by
    simp only [popTo]
    split
    · exact hz.shut
    · exact popTo_ok nm fs _ hz.shut
theorem closeAll_ok : ∀ (fs : Frs) (l : List Nd), ZOk ⟨fs, l⟩ → shL (closeAll fs l) [] false
  | [], l, h => h.2
  | (k, h) :: fs, l, hz => closeAll_ok fs _ hz.shut
theorem ltx_snoc (b : Bool) (l : List Nd) (n : Nd) : ltx b (l ++ [n]) = (n.kind == 2) := by
  induction l generalizing b with
  | nil => rfl
  | cons m l ih => simp only [List.cons_append, ltx, ih]
theorem addText_ok {p : List UInt8} {l : List Nd} {x : List UInt8} (hx : x ≠ []) (h : shL l p false) : shL (addText l x) p false := by
  have hnew : ∀ b, b = false → sh1 (.mk 2 [] [] x []) p b := fun b hb => by
    simp only [sh1]
    exact ⟨fun e => by simp at e, fun _ => ⟨hx, hb⟩, fun _ => trivial, by simp [shL]⟩
  rcases List.eq_nil_or_concat l with rfl | ⟨l', n, rfl⟩
  · simp only [addText, shL]
    exact ⟨hnew _ rfl, trivial⟩
  · obtain ⟨k, nm, ats, tx, kids⟩ := n
    rw [List.concat_eq_append] at h ⊢
    rw [addText_snoc]
    rw [shL_snoc] at h
    obtain ⟨h1, h2⟩ := h
    split
    · rename_i hk
      rw [shL_snoc]
      refine ⟨h1, ?_⟩
      simp only [sh1] at h2 ⊢
      obtain ⟨h3, h4, h5, h6⟩ := h2
      exact ⟨h3, fun e => ⟨fun e2 => by simp at e2; exact (h4 e).1 e2.1, (h4 e).2⟩, h5, h6⟩
    · rename_i hk
      rw [show l' ++ [Nd.mk k nm ats tx kids, Nd.mk 2 [] [] x []] = (l' ++ [Nd.mk k nm ats tx kids]) ++ [Nd.mk 2 [] [] x []] by simp, shL_snoc, shL_snoc]
      exact ⟨⟨h1, h2⟩, hnew _ (by rw [ltx_snoc]; simpa [Nd.kind] using hk)⟩
theorem putZ_ok {z : Zp} (hz : ZOk z) (t : Tk) : ZOk (putZ z t) := by
  unfold putZ
  split
  · obtain ⟨h1, h2⟩ := popWhile_ok t.name z.fr z.last hz
    unfold beginZ
    simp only
    split
    · rename_i hv
      exact ⟨h1.1, (shL_snoc _ _ _ _).2 ⟨h1.2, sh_elem _ h2 (fun _ => rfl) (by simp [shL])⟩⟩
    · rename_i hv
      exact ⟨⟨by simpa using hv, h2, h1.2, h1.1⟩, by simp [shL]⟩
  · split
    · unfold endZ
      split
      · exact hz
      · exact popTo_ok _ _ _ hz
    · split
      · unfold charsZ
        split
        · exact hz
        · rename_i hx
          exact ⟨hz.1, addText_ok hx hz.2⟩
      · split
        · unfold remarkZ
          refine ⟨hz.1, (shL_snoc _ _ _ _).2 ⟨hz.2, ?_⟩⟩
          simp only [sh1]
          exact ⟨fun e => by simp at e, fun e => by simp at e, fun _ => trivial, by simp [shL]⟩
        · exact hz
theorem putsZ_ok (l : List Tk) : ∀ z : Zp, ZOk z → ZOk (putsZ z l) := by
  induction l with
  | nil => intro z h; exact h
  | cons t l ih => intro z h; exact ih _ (putZ_ok h t)
theorem shape_law (l : List Tk) : shL (treeL l) [] false := closeAll_ok _ _ (putsZ_ok l ⟨[], []⟩ ⟨trivial, by simp [shL]⟩)
/-- the node at k -/
theorem shL_at : ∀ {l : List Nd} {p : List UInt8} {b : Bool}, shL l p b → ∀ (k : Nat) (hk : k < l.length), sh1 l[k] p (if k = 0 then b else ((l[k - 1]'(by omega)).kind == 2))
  | n :: l, p, b, h, k, hk => by
    simp only [shL] at h
    match k with
    | 0 => simpa using h.1
    | 1 =>
      have := shL_at h.2 0 (by simpa using hk)
      simpa using this
    | k + 2 =>
      have := shL_at h.2 (k + 1) (by rw [List.length_cons] at hk; omega)
      simpa using this
end Go.Proofs.Ytlfkipilgdeemaa
