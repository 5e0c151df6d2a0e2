/- The turned automaton: plain law. -/
import Derived.Test.YtbipdnnalhdoaaaHJ
import Derived.Test.YtbipdnnalhdoaaaHy
namespace Go.Proofs.Ytbipdnnalhdoaaa
open Go.RowKit Go.Maps Go.WideMaps

theorem flip_all (l : List Int) : flip l l.length = l.map (fun x => 1 - x) := by simp [flip]
theorem notH_ok {h : Hd} {m : Nat} (hO : HdOk h m) : HdOk (notH h) m := by
  have hl : (notH h).root.out.length = h.root.out.length := flip_len _ _
  refine ⟨hO.K1, hO.labs, ⟨by rw [hl]; exact hO.root.pos, by rw [hl]; exact hO.root.len, fun r hr => ?_, fun x hx => ?_⟩, hO.fewL, hO.fewS, by rw [hl]; exact hO.fewR, hO.fewK⟩
  · rw [hl]
    exact hO.root.rows r hr
  · have hx' : x ∈ flip h.root.out h.root.out.length := hx
    rw [flip_all] at hx'
    obtain ⟨y, hy, rfl⟩ := List.mem_map.1 hx'
    have := hO.root.outs y hy
    omega
theorem notH_side {h : Hd} {n : Nat} (hn : n < h.labs.length) : (notH h).side n = h.side n := by
  have h1 : (notH h).labs[n]? = h.labs[n]? := rfl
  rw [Hd.side, Hd.side, h1, List.getElem?_eq_getElem hn]
  rfl
theorem notH_nx (h : Hd) (n s v : Nat) : (notH h).mc.nx n s v = h.mc.nx n s v := by
  show ((notH h).side n).nxt s v = (h.side n).nxt s v
  by_cases hn : n < h.labs.length
  · rw [notH_side hn]
  · rw [Hd.side_ge (h := h) (by omega), Hd.side_ge (h := notH h) (show h.labs.length ≤ n by omega)]
    rfl
theorem notH_thr (h : Hd) : ∀ k, (∀ t : Tr, wtT t ≤ k → stT (notH h).mc t = stT h.mc t) ∧ (∀ (l : List Tr) (n s : Nat), wtTs l ≤ k → thrT (notH h).mc n s l = thrT h.mc n s l) := by
  intro k
  induction k with
  | zero =>
    refine ⟨fun t ht => by rw [wtT_eq] at ht; omega, fun l n s hl => ?_⟩
    cases l with
    | nil => rw [thrT, thrT]
    | cons t l => rw [wtTs, wtT_eq] at hl; omega
  | succ k ih =>
    have hst : ∀ t : Tr, wtT t ≤ k + 1 → stT (notH h).mc t = stT h.mc t := fun t ht => by
      cases t with
      | mk a ks =>
        rw [wtT] at ht
        rw [stT, stT, ih.2 ks a.toNat 0 (by omega)]
        have hL : (notH h).mc.L = h.mc.L := rfl
        rw [hL]
        by_cases hc : 0 ≤ a ∧ a.toNat < h.mc.L
        · rw [if_pos hc, if_pos hc]
          have ho : (notH h).mc.out a.toNat = h.mc.out a.toNat := by
            funext s
            show ((notH h).side a.toNat).tell s = (h.side a.toNat).tell s
            rw [notH_side hc.2]
          rw [ho]
        · rw [if_neg hc, if_neg hc]
    refine ⟨hst, fun l => ?_⟩
    induction l with
    | nil => intro n s _; rw [thrT, thrT]
    | cons t l ihl =>
      intro n s hl
      rw [wtTs] at hl
      rw [thrT, thrT, hst t (by omega)]
      cases stT h.mc t with
      | none => rfl
      | some v => simp only [notH_nx]; exact ihl n _ (by omega)
/-- trees of fitting labels have states -/
theorem thr_total {M : Mc} {L : Nat} (hL : M.L = L) {l : List Tr} (hl : LabB L l) : ∀ n s, ∃ s', thrT M n s l = some s' := by
  induction hl with
  | nil => intro n s; exact ⟨s, by rw [thrT]⟩
  | @cons t l h0 h1 _ _ ih1 ih2 =>
    intro n s
    cases t with
    | mk a ks =>
      simp only [Tr.lab, Tr.kids] at h0 h1 ih1
      obtain ⟨s1, hs1⟩ := ih1 a.toNat 0
      rw [thrT, stT, if_pos ⟨h0, by omega⟩, hs1]
      exact ih2 n _
theorem notH_acc {h : Hd} {m : Nat} {l : List Tr} (hO : HdOk h m) (hm : m ≤ 400) (hl : LabB h.labs.length l) : accB (notH h).mc l = ! accB h.mc l := by
  have h1 := (notH_thr h _).2 l h.labs.length 0 (Nat.le_refl _)
  obtain ⟨s, hs⟩ := thr_total (M := h.mc) (L := h.labs.length) rfl hl h.labs.length 0
  have hM := hO.mcOk hm
  have hlt := (thr_lt hM).2 l h.labs.length 0 s (Nat.le_refl _) (by show 0 < (h.side h.labs.length).out.length; rw [Hd.side_ge (Nat.le_refl _)]; exact hO.root.pos) hs
  have hlt' : s < h.root.out.length := by
    have h9 : s < (h.side h.labs.length).out.length := hlt
    rw [Hd.side_ge (Nat.le_refl _)] at h9
    exact h9
  unfold accB
  have e1 : (notH h).mc.L = h.labs.length := rfl
  have e2 : h.mc.L = h.labs.length := rfl
  rw [e1, e2, h1, hs]
  have o1 : (notH h).mc.out h.labs.length s = ((flip h.root.out h.root.out.length)[s]?.getD 0).toNat := by
    show ((notH h).side h.labs.length).tell s = _
    have e9 : (notH h).side h.labs.length = (notH h).root := Hd.side_ge (h := notH h) (show h.labs.length ≤ h.labs.length from Nat.le_refl _)
    rw [e9]
    rfl
  have o2 : h.mc.out h.labs.length s = (h.root.out[s]?.getD 0).toNat := by
    show (h.side h.labs.length).tell s = _
    rw [Hd.side_ge (Nat.le_refl _)]
    rfl
  simp only [Option.map_some, stateI, o1, o2]
  rw [flip_all, List.getElem?_map, List.getElem?_eq_getElem hlt']
  have hx := hO.root.outs _ (List.getElem_mem hlt')
  have hc : h.root.out[s] = 0 ∨ h.root.out[s] = 1 := by omega
  rcases hc with hc | hc <;> simp [hc]
end Go.Proofs.Ytbipdnnalhdoaaa
