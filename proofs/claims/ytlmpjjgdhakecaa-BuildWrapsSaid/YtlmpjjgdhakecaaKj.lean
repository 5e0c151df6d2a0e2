/- Plain: tokens within an element that nothing closes are its kids, as they are alone. -/
import Derived.Test.YtlmpjjgdhakecaaK1
namespace Go.Proofs.Ytlmpjjgdhakecaa

def zzN : List UInt8 := [122, 122]
def zzH : Hd := (zzN, [])
/-- within an element zz -/
def inZ (z : Zp) : Zp := ⟨z.fr ++ [([], zzH)], z.last⟩
theorem closes_zz (nm : List UInt8) : closesL zzN nm = false := by
  have : closesRow zzN = [] := by rfl
  simp [closesL, this]
theorem popWhile_in (nm : List UInt8) : ∀ (fs : Frs) (l : List Nd), popWhile nm (fs ++ [([], zzH)]) l = inZ (popWhile nm fs l)
  | [], l => by simp [popWhile, inZ, zzH, closes_zz]
  | (k, h) :: fs, l => by
    simp only [List.cons_append, popWhile]
    split
    · exact popWhile_in nm fs _
    · rfl
theorem popTo_in {nm : List UInt8} : ∀ (fs : Frs) (l : List Nd), cntN nm fs ≠ 0 → popTo nm (fs ++ [([], zzH)]) l = inZ (popTo nm fs l)
  | [], l, h => absurd rfl h
  | (k, h) :: fs, l, hc => by
    simp only [List.cons_append, popTo]
    split
    · rfl
    · rename_i hn
      refine popTo_in fs _ ?_
      intro e
      apply hc
      simp only [cntN, List.countP_cons] at e ⊢
      rw [e]
      simp [hn]
theorem cntN_in {nm : List UInt8} (h : nm ≠ zzN) (fs : Frs) : cntN nm (fs ++ [([], zzH)]) = cntN nm fs := by
  simp only [cntN, List.countP_append, List.countP_cons, List.countP_nil, Nat.zero_add]
  have : (zzH.1 == nm) = false := by rw [beq_eq_false_iff_ne]; exact fun e => h e.symm
  simp [this]
theorem putZ_in (z : Zp) {t : Tk} (h : t.name ≠ zzN) : putZ (inZ z) t = inZ (putZ z t) := by
  unfold putZ
  split
  · simp only [beginZ]
    rw [show (inZ z).fr = z.fr ++ [([], zzH)] from rfl, show (inZ z).last = z.last from rfl, popWhile_in]
    split <;> rfl
  · split
    · simp only [endZ]
      rw [show (inZ z).fr = z.fr ++ [([], zzH)] from rfl, cntN_in h]
      by_cases hc : cntN t.name z.fr = 0
      · rw [if_pos hc, if_pos hc]
      · rw [if_neg hc, if_neg hc, show (inZ z).last = z.last from rfl, popTo_in _ _ hc]
    · split
      · simp only [charsZ]
        split <;> rfl
      · split
        · rfl
        · rfl
theorem putsZ_in (l : List Tk) : ∀ z : Zp, (∀ t ∈ l, t.name ≠ zzN) → putsZ (inZ z) l = inZ (putsZ z l) := by
  induction l with
  | nil => intro z _; rfl
  | cons t l ih =>
    intro z h
    simp only [putsZ, List.foldl_cons]
    rw [putZ_in z (h t (by simp))]
    exact ih _ fun t' ht => h t' (by simp [ht])
/-- no open element is zz -/
def NoZ (fs : Frs) : Prop := ∀ x ∈ fs, x.2.1 ≠ zzN
theorem popWhile_no (nm : List UInt8) : ∀ (fs : Frs) (l : List Nd), NoZ fs → NoZ (popWhile nm fs l).fr
  | [], _, h => h
  | (k, h) :: fs, l, hn => by
    simp only [popWhile]
    split
    · exact popWhile_no nm fs _ fun x hx => hn x (List.mem_cons_of_mem _ hx)
    · exact hn
theorem popTo_no (nm : List UInt8) : ∀ (fs : Frs) (l : List Nd), NoZ fs → NoZ (popTo nm fs l).fr
  | [], _, h => h
  | (k, h) :: fs, l, hn => by
    simp only [popTo]
    split
    · exact fun x hx => hn x (List.mem_cons_of_mem _ hx)
    · exact popTo_no nm fs _ fun x hx => hn x (List.mem_cons_of_mem _ hx)
theorem putZ_no {z : Zp} (hz : NoZ z.fr) {t : Tk} (h : t.name ≠ zzN) : NoZ (putZ z t).fr := by
  unfold putZ
  split
  · simp only [beginZ]
    have := popWhile_no t.name z.fr z.last hz
    split
    · exact this
    · intro x hx
      rcases List.mem_cons.1 hx with rfl | hx
      · exact h
      · exact this x hx
  · split
    · simp only [endZ]
      split
      · exact hz
      · exact popTo_no _ _ _ hz
    · split
      · simp only [charsZ]
        split <;> exact hz
      · split <;> exact hz
theorem putsZ_no (l : List Tk) : ∀ z : Zp, NoZ z.fr → (∀ t ∈ l, t.name ≠ zzN) → NoZ (putsZ z l).fr := by
  induction l with
  | nil => intro z h _; exact h
  | cons t l ih => intro z h ht; exact ih _ (putZ_no h (ht t (by simp))) fun t' h' => ht t' (by simp [h'])
theorem popTo_zz : ∀ (fs : Frs) (l : List Nd), NoZ fs → popTo zzN (fs ++ [([], zzH)]) l = ⟨[], [elemN zzH (closeAll fs l)]⟩
  | [], l, _ => by simp [popTo, zzH, closeAll]
  | (k, h) :: fs, l, hn => by
    have h1 : h.1 ≠ zzN := hn _ (List.mem_cons_self)
    simp only [List.cons_append, popTo, if_neg h1, closeAll]
    exact popTo_zz fs _ fun x hx => hn x (List.mem_cons_of_mem _ hx)
def wrapT (own : List Tk) : List Tk := ⟨1, zzN, [], []⟩ :: (own ++ [⟨2, zzN, [], []⟩, ⟨3, [], [], [116]⟩])
theorem wraps_law (own : List Tk) (h : ∀ t ∈ own, t.name ≠ zzN) : treeL (wrapT own) = [elemN zzH (treeL own), .mk 2 [] [] [116] []] := by
  have h1 : putZ ⟨[], []⟩ ⟨1, zzN, [], []⟩ = inZ ⟨[], []⟩ := by rfl
  have h2 : putsZ ⟨[], []⟩ (wrapT own) = putZ (putZ (inZ (putsZ ⟨[], []⟩ own)) ⟨2, zzN, [], []⟩) ⟨3, [], [], [116]⟩ := by
    rw [← putsZ_in own _ h, wrapT, putsZ, List.foldl_cons, List.foldl_append, h1]
    rfl
  have hn := putsZ_no own ⟨[], []⟩ (fun x hx => by simp at hx) h
  have hc : cntN zzN ((putsZ ⟨[], []⟩ own).fr ++ [([], zzH)]) ≠ 0 := by
    simp only [cntN, List.countP_append, List.countP_cons, List.countP_nil]
    simp [zzH]
  have h3 : putZ (inZ (putsZ ⟨[], []⟩ own)) ⟨2, zzN, [], []⟩ = ⟨[], [elemN zzH (treeL own)]⟩ := by
    show endZ (inZ (putsZ ⟨[], []⟩ own)) zzN = _
    unfold endZ
    rw [show (inZ (putsZ ⟨[], []⟩ own)).fr = (putsZ ⟨[], []⟩ own).fr ++ [([], zzH)] from rfl, if_neg hc]
    rw [show (inZ (putsZ ⟨[], []⟩ own)).last = (putsZ ⟨[], []⟩ own).last from rfl, popTo_zz _ _ hn]
    rfl
  unfold treeL
  rw [h2, h3]
  rfl
end Go.Proofs.Ytlmpjjgdhakecaa
