/- model.Closes and strainerref06.Closes. -/
import Derived.Test.YtlfkipilgdeemaaK3
import Derived.Deep.DeepCutAuto
namespace Go.Proofs.Ytlfkipilgdeemaa
open Go.RowKit Go.Maps Go.WideMaps

theorem closers_find (s : List UInt8) : closersV.find? (fun p => p.1 == s) = (closersT.find? fun p => p.1 == s).map fun p => (p.1, (p.2.map sv).toArray) := by
  rw [closersV, List.find?_map]
  rfl
theorem closes_row (o : List UInt8) : closesRow o = ((closersT.find? fun p => p.1 == o).map (·.2)).getD [] := rfl
theorem contains_bytes (l : List (List UInt8)) (b : List UInt8) : Lib.containsS (l.map fun x => (⟨x.toArray⟩ : ByteArray)) ⟨b.toArray⟩ = l.contains b := by
  rw [Bool.eq_iff_iff, Lib.containsS_iff, List.contains_iff_mem, List.mem_map]
  constructor
  · rintro ⟨x, hx, e⟩
    have : x = b := (IsStr.mk x).symm.trans ((congrArg (fun t : ByteArray => t.data.toList) e).trans (IsStr.mk b))
    rw [← this]; exact hx
  · intro h
    exact ⟨b, h, rfl⟩

theorem add_zero_off (b k : Nat) : (⟨b, 0, none⟩ : Addr).add k = ⟨b, k, none⟩ := by
  unfold Addr.add
  split
  · rename_i h; subst h; rfl
  · simp

/-- model.Closes -/
theorem mCloses_any (o b : List UInt8) (ho : o.length ≤ 1000000) (w : World) : Calls Try.prog 30 #[.string ⟨o.toArray⟩, .string ⟨b.toArray⟩] w fun e w' => e = .returned (.bool (closesL o b)) ∧ Below w.heap.size w w' := by
  have hkey : keyOf Try.prog 9 (.string ⟨o.toArray⟩) = some (.string o) := keyOf_string_mk Try.underlying9 (by unfold maxLen; show o.toArray.size ≤ _; simp; omega)
  have hz : ∀ w, (zeroValue 62).run Try.prog w = .ok (.slice none 0 0) w := fun w => by kernel_rfl
  have HK := Lib.hid hkey
  clear hkey
  go_enter Try.func30, Try.ntmps30
  go_wp2_with fail
  refine (closers_any w).mono ?_
  rintro e W1 ⟨m, rfl, ⟨f, m1, h1⟩, b1⟩
  have hlook := m1.look keyS Try.underlying77 (hz _) HK.out false
  have h2 := h1 ⟨o.toArray⟩
  rw [show (⟨o.toArray⟩ : ByteArray).data.toList = o from rfl, closers_find] at h2
  cases hf : closersT.find? (fun p => p.1 == o) with
  | none =>
    rw [hf] at h2
    simp only [Option.map_none] at h2
    rw [h2] at hlook
    have HR := Lib.hid (show closesL o b = false by simp only [closesL, closesRow, hf]; rfl)
    simp only [] at hlook
    clear hf h1 h2 m1
    go_wp2_with fail
    refine (Try.slices_Contains_string_empty _ _ _ _).mono ?_
    rintro e W2 ⟨rfl, rfl⟩
    go_wp2
    go_ret
    exact ⟨ret_bool HR.out.symm, b1⟩
  | some p =>
    rw [hf] at h2
    simp only [Option.map_some] at h2
    obtain ⟨g, hgm, h3, h4⟩ := h2
    rw [h3] at hlook
    have HR := Lib.hid (show closesL o b = p.2.contains b by simp only [closesL, closesRow, hf]; rfl)
    have hsz : (p.2.map sv).toArray.size = p.2.length := by simp
    rw [hsz] at hlook
    have hm : p ∈ closersT := List.mem_of_find?_eq_some hf
    have hp : p.2.length ≤ 11 := (by decide : ∀ p ∈ closersT, p.2.length ≤ 11) p hm
    simp only [] at hlook
    clear hf h1 h3 m1 hsz hm
    have hc : ∀ j, j < (p.2.map fun x => (⟨x.toArray⟩ : ByteArray)).length → W1.cell? ⟨g, 0 + j, none⟩ = some (.string ((p.2.map fun x => (⟨x.toArray⟩ : ByteArray)).getD j ByteArray.empty)) := by
      intro j hj
      rw [Lib.cell_of_heap h4, Nat.zero_add]
      simp only [List.length_map] at hj
      simp [sv, hj]
    have HC := Lib.hid hc
    clear hc h4
    go_wp2_with fail
    refine (Try.slices_Contains_string g 0 p.2.length p.2.length (p.2.map fun x => (⟨x.toArray⟩ : ByteArray)) ⟨b.toArray⟩ W1 (by simp) (by omega) HC.out).mono ?_
    rintro e W2 ⟨rfl, rfl⟩
    rw [List.take_of_length_le (by simp), contains_bytes]
    go_wp2
    go_ret
    exact ⟨ret_bool (by rw [HR.out]; simp), b1⟩

set_option maxRecDepth 100000 in
/-- strainerref06.Closes -/
theorem rCloses_any (o b : List UInt8) (w : World) : Calls Try.prog 20 #[.string ⟨o.toArray⟩, .string ⟨b.toArray⟩] w fun e w' => e = .returned (.bool (closesL o b)) ∧ Below w.heap.size w w' := by
  go_enter Try.func20, Try.ntmps20
  go_upto_region 16 with fail
  all_goals (try (exfalso; simp_all; done))
  all_goals
    have hbo : ∀ x : List UInt8, (x == o) = (o == x) := fun x => Bool.beq_comm
    obtain ⟨R, hR⟩ : ∃ R, closesRow o = R := ⟨_, rfl⟩
    have HCL := Lib.hid (show closesL o b = R.contains b by rw [← hR]; rfl)
    simp [closesRow, closersT, List.find?_cons, hbo, *] at hR
    have hRl : R.length ≤ 11 := by first | (rw [← hR]; decide) | (rw [hR]; decide)
    have hV : (∀ j u, (R.map sv)[j]? = some u → (w.alloc (.cells (R.map sv).toArray 9)).cell? ((⟨w.heap.size, 0, none⟩ : Addr).add j) = some u) := fun j u hj => World.news_of_block (fr := (0, 0)) (heap_alloc_new w _) j u (by simpa using hj)
    have HS := Lib.hid hR
    clear hR hbo
    first
      | rw [show Value.slice (some ⟨w.heap.size, 0, none⟩) 11 11 = .slice (some ⟨w.heap.size, 0, none⟩) R.length R.length by rw [← HS.out]; rfl]
      | rw [show Value.slice (some ⟨w.heap.size, 0, none⟩) 2 2 = .slice (some ⟨w.heap.size, 0, none⟩) R.length R.length by rw [← HS.out]; rfl]
      | rw [show Value.slice (some ⟨w.heap.size, 0, none⟩) 1 1 = .slice (some ⟨w.heap.size, 0, none⟩) R.length R.length by rw [← HS.out]; rfl]
      | rw [show Value.slice none 0 0 = .slice none R.length R.length by rw [HS.out]; rfl]
    go_wp2
    go_loopw [6] (fun i wr => ∃ k : Nat, i = .int .i64 k ∧ k ≤ R.length ∧ (R = [] ∨ ∀ j u, (R.map sv)[j]? = some u → wr.cell? ((⟨w.heap.size, 0, none⟩ : Addr).add j) = some u) ∧ Below w.heap.size w wr ∧ (R.take k).contains b = false) (fun i _ => R.length - (intOf i).toNat)
    case atStart =>
      first
        | exact ⟨0, rfl, Nat.zero_le _, .inr (by rw [← HS.out] at hV ⊢; exact hV), (Below.refl _ w).alloc (Nat.le_refl _) _, rfl⟩
        | exact ⟨0, rfl, Nat.zero_le _, .inl HS.out, Below.refl _ w, rfl⟩
    case round =>
      obtain ⟨k, rfl, hk, hrd, hbw, hno⟩ := hrel
      have HN := Lib.hid hno
      clear hno hV
      by_cases hlt : k < R.length
      · have hrd' : ∀ j u, (R.map sv)[j]? = some u → wr.cell? ((⟨w.heap.size, 0, none⟩ : Addr).add j) = some u := by
          rcases hrd with h | h
          · rw [h] at hlt; cases hlt
          · exact h
        have hu := hrd' k _ (by rw [List.getElem?_map, List.getElem?_eq_getElem hlt]; rfl)
        rw [add_zero_off] at hu
        first
        | (exfalso; have h0 := HS.out; rw [h0] at hlt; cases hlt; done)
        | (have HNX := Lib.hid (List.take_succ_eq_append_getElem hlt)
           have HIN := Lib.hid (List.getElem_mem hlt)
           generalize R[k] = x at *
           simp only [sv] at hu
           have HRD := Lib.hid hrd
           clear hrd hrd'
           by_cases hx : x = b
           · subst hx
             go_wp2
             go_ret
             exact ⟨ret_bool (by rw [HCL.out]; exact (List.contains_iff_mem.2 HIN.out).symm), hbw⟩
           · have hq : (x == b) = false := beq_eq_false_iff_ne.2 hx
             have HQ := Lib.hid hx
             clear hx
             go_wp2
             go_roundw
             case rel =>
               refine ⟨k + 1, by go_num, by omega, HRD.out, hbw, ?_⟩
               rw [HNX.out]
               have := HN.out
               simp only [List.contains_eq_mem, decide_eq_false_iff_not, List.mem_append, List.mem_singleton] at this ⊢
               rintro (h | h)
               · exact this h
               · exact HQ.out h.symm
             case measure => simp [intOf]; omega)
      · go_wp2
        go_ret
        exact ⟨ret_bool (by rw [HCL.out, ← HN.out, List.take_of_length_le (by omega)]), hbw⟩
end Go.Proofs.Ytlfkipilgdeemaa
