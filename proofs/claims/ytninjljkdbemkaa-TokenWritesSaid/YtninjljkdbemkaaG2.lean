/- strainerref03: word, attribute, Value. -/
import Derived.Test.YtninjljkdbemkaaG1
import Derived.Test.YtninjljkdbemkaaNd
import Derived.Test.YtninjljkdbemkaaWr5
namespace Go.Proofs.Ytninjljkdbemkaa
open Go.RowKit

def bytesum : List UInt8 → Nat
  | [] => 0
  | c :: l => c.toNat + bytesum l
theorem bytesum_append (l m : List UInt8) : bytesum (l ++ m) = bytesum l + bytesum m := by
  induction l with
  | nil => simp [bytesum]
  | cons c l ih => simp only [List.cons_append, bytesum, ih]; omega
theorem bytesum_le (l : List UInt8) : bytesum l ≤ 255 * l.length := by
  induction l with
  | nil => simp [bytesum]
  | cons c l ih => have := UInt8.toNat_lt c; simp only [bytesum, List.length_cons]; omega
theorem bytesum_next {l : List UInt8} {k : Nat} (hk : k < l.length) : bytesum (l.take (k + 1)) = bytesum (l.take k) + l[k].toNat := by
  rw [List.take_succ_eq_append_getElem hk, bytesum_append]; simp [bytesum]
def wordTab : List (List UInt8) := [[97], [98], [112], [117, 108], [108, 105], [98, 114], [105, 109, 103], [100, 105, 118], [115, 99, 114, 105, 112, 116], [120, 45, 121]]
def wordL (l : List UInt8) : List UInt8 := if namedL l = true then l else wordTab.getD (bytesum l % 10) []
def atrTab : List (List UInt8) := [[105, 100], [104, 114, 101, 102], [116, 105, 116, 108, 101], [100, 97, 116, 97, 45, 97], [111, 110, 99, 108, 105, 99, 107]]
def atrnL (l : List UInt8) : List UInt8 := if attrdL l = true then l else atrTab.getD (l.length % 5) []

theorem tab_cell (w : World) (tab : List (List UInt8)) (T : TypeId) (r : Nat) (hr : r < tab.length) : (w.alloc (.cells (tab.map sv).toArray T)).cell? ⟨w.heap.size, r, none⟩ = some (.string ⟨(tab.getD r []).toArray⟩) := by
  rw [Lib.cell_of_heap (heap_alloc_new w _)]
  simp [hr, sv]

set_option maxHeartbeats 1000000 in
set_option maxRecDepth 100000 in
/-- strainerref03.word -/
theorem word_any {w : World} {s : ByteArray} {l : List UInt8} (hs : IsStr s l) (hl : l.length ≤ 1000000) : Calls Try.prog 31 #[.string s] w fun e w' => e = .returned (.string ⟨(wordL l).toArray⟩) ∧ Below w.heap.size w w' := by
  have hsz := hs.size
  have hsb : s.size ≤ 1000000 := by omega
  have HS := Lib.hid hs
  have HSZ := Lib.hid hsz
  have bw := (Below.refl w.heap.size w).alloc (Nat.le_refl _) (.cells (wordTab.map sv).toArray 9)
  clear hs hsz
  go_enter Try.func31, Try.ntmps31
  go_wp2
  go_loop [4, 5] (fun n i => ∃ k : Nat, i = .int .i64 k ∧ k ≤ s.size ∧ n = .int .i64 (bytesum (l.take k))) (fun _ i => s.size - (intOf i).toNat)
  case atStart => exact ⟨0, rfl, Nat.zero_le _, rfl⟩
  case round =>
    obtain ⟨k, rfl, hk, rfl⟩ := hrel
    have hbd := bytesum_le (l.take k)
    have hll : (l.take k).length ≤ k := List.length_take_le _ _
    by_cases hlt : k < s.size
    · have hkl : k < l.length := by rw [← HSZ.out]; exact hlt
      have HNX := Lib.hid (bytesum_next hkl)
      have e1 := s_byte HS.out k hlt hkl
      rw [← e1] at HNX
      clear e1
      have hclt := UInt8.toNat_lt s[k]
      generalize hc : s[k] = c at *
      generalize bytesum (l.take k) = b at *
      go_wp2
      go_round
      case rel => exact ⟨k + 1, by go_num, by omega, by rw [HNX.out]; go_num⟩
      case measure => simp [intOf]; omega
    · have htk : l.take k = l := List.take_of_length_le (by rw [← HSZ.out]; omega)
      rw [htk] at hbd ⊢
      have hb2 : bytesum l ≤ 255000000 := by omega
      clear htk hbd hll
      cases hn : namedL l with
      | true =>
        have HN := Lib.hid hn
        have HW := Lib.hid (show wordL l = l by simp [wordL, hn])
        clear hn
        generalize bytesum l = b at *
        go_wp2_with fail
        refine (Named3_any HS.out (by unfold maxLen; omega) _).mono ?_
        rintro e w' ⟨rfl, rfl⟩
        rw [HN.out]
        go_wp2
        go_ret
        exact ⟨ret_str (by rw [HW.out]; exact HS.out.to), bw⟩
      | false =>
        have HN := Lib.hid hn
        have HW := Lib.hid (show wordL l = wordTab.getD (bytesum l % 10) [] by simp [wordL, hn])
        clear hn
        generalize bytesum l = b at *
        have hc : (w.alloc (.cells #[.string ⟨#[97]⟩, .string ⟨#[98]⟩, .string ⟨#[112]⟩, .string ⟨#[117, 108]⟩, .string ⟨#[108, 105]⟩, .string ⟨#[98, 114]⟩, .string ⟨#[105, 109, 103]⟩, .string ⟨#[100, 105, 118]⟩, .string ⟨#[115, 99, 114, 105, 112, 116]⟩, .string ⟨#[120, 45, 121]⟩] 9)).cell? ⟨w.heap.size, b % 10, none⟩ = some (.string ⟨(wordTab.getD (b % 10) []).toArray⟩) := tab_cell w wordTab 9 (b % 10) (by have : wordTab.length = 10 := rfl; omega)
        go_wp2_with fail
        refine (Named3_any HS.out (by unfold maxLen; omega) _).mono ?_
        rintro e w' ⟨rfl, rfl⟩
        rw [HN.out]
        generalize wordTab.getD (b % 10) [] = x at *
        go_wp2
        go_ret
        exact ⟨by rw [HW.out]; rfl, bw⟩

set_option maxHeartbeats 1000000 in
set_option maxRecDepth 100000 in
/-- strainerref03.attribute -/
theorem attribute_any {w : World} {s : ByteArray} {l : List UInt8} (hs : IsStr s l) (hl : l.length ≤ 250000) : Calls Try.prog 32 #[.string s] w fun e w' => e = .returned (.string ⟨(atrnL l).toArray⟩) ∧ Below w.heap.size w w' := by
  have hsz := hs.size
  have hsb : s.size ≤ 1000000 := by omega
  have HS := Lib.hid hs
  have HSZ := Lib.hid hsz
  clear hs hsz
  cases hn : attrdL l with
  | true =>
    have HN := Lib.hid hn
    have HW := Lib.hid (show atrnL l = l by simp [atrnL, hn])
    clear hn
    go_enter Try.func32, Try.ntmps32
    go_wp2_with fail
    refine (Attributed3_any HS.out hl).mono ?_
    rintro e W1 ⟨rfl, b1⟩
    rw [HN.out]
    go_wp2
    go_ret
    exact ⟨ret_str (by rw [HW.out]; exact HS.out.to), b1⟩
  | false =>
    have HN := Lib.hid hn
    have HW := Lib.hid (show atrnL l = atrTab.getD (s.size % 5) [] by simp [atrnL, hn, HSZ.out])
    clear hn
    go_enter Try.func32, Try.ntmps32
    go_wp2_with fail
    refine (Attributed3_any HS.out hl).mono ?_
    rintro e W1 ⟨rfl, b1⟩
    rw [HN.out]
    have hc : (W1.alloc (.cells #[.string ⟨#[105, 100]⟩, .string ⟨#[104, 114, 101, 102]⟩, .string ⟨#[116, 105, 116, 108, 101]⟩, .string ⟨#[100, 97, 116, 97, 45, 97]⟩, .string ⟨#[111, 110, 99, 108, 105, 99, 107]⟩] 9)).cell? ⟨W1.heap.size, s.size % 5, none⟩ = some (.string ⟨(atrTab.getD (s.size % 5) []).toArray⟩) := tab_cell W1 atrTab 9 (s.size % 5) (by have : atrTab.length = 5 := rfl; omega)
    have bw := b1.alloc b1.size (.cells #[.string ⟨#[105, 100]⟩, .string ⟨#[104, 114, 101, 102]⟩, .string ⟨#[116, 105, 116, 108, 101]⟩, .string ⟨#[100, 97, 116, 97, 45, 97]⟩, .string ⟨#[111, 110, 99, 108, 105, 99, 107]⟩] 9)
    generalize atrTab.getD (s.size % 5) [] = x at *
    go_wp2
    go_ret
    exact ⟨by rw [HW.out]; rfl, bw⟩

/-- an attribute's value -/
def valL : List Atr → List UInt8 → Option (List UInt8)
  | [], _ => none
  | a :: l, nm => if a.1 == nm then some a.2 else valL l nm
theorem valL_next {l : List Atr} {nm : List UInt8} {k : Nat} (hk : k < l.length) (h : (l[k].1 == nm) = false) : valL (l.drop k) nm = valL (l.drop (k + 1)) nm := by
  rw [List.drop_eq_getElem_cons hk, valL, h]; rfl
theorem valL_here {l : List Atr} {nm : List UInt8} {k : Nat} (hk : k < l.length) (h : (l[k].1 == nm) = true) : valL (l.drop k) nm = some l[k].2 := by
  rw [List.drop_eq_getElem_cons hk, valL, h]; rfl
set_option maxHeartbeats 1000000 in
set_option maxRecDepth 100000 in
/-- strainerref03.Value -/
theorem Value3_any {w : World} {n : Nd} {cs : List Value} {nm : List UInt8} (hn : NIs w w.heap.size n cs) (hal : n.attrs.length ≤ 1000000) :
    Calls Try.prog 17 #[.agg cs.toArray, .string ⟨nm.toArray⟩] w fun e w' => e = .returned (.tuple #[.string ⟨((valL n.attrs nm).getD []).toArray⟩, .bool (valL n.attrs nm).isSome]) ∧ Below w.heap.size w w' := by
  have ba := (Below.refl w.heap.size w).alloc (Nat.le_refl _) (.cells cs.toArray 28)
  have hN := NodeAt.box hn (Nat.le_refl _) 28
  obtain ⟨A, c, hc, hac, hat⟩ := hN.ats
  simp only [Nat.zero_add] at hc
  clear hn hN
  go_enter Try.func17, Try.ntmps17
  go_wp2
  go_loop [6] (fun i => ∃ k : Nat, i = .int .i64 k ∧ k ≤ n.attrs.length ∧ valL n.attrs nm = valL (n.attrs.drop k) nm) (fun i => n.attrs.length - (intOf i).toNat)
  case atStart => exact ⟨0, rfl, Nat.zero_le _, rfl⟩
  case round =>
    obtain ⟨k, rfl, hk, hv⟩ := hrel
    have HV := Lib.hid hv
    clear hv
    by_cases hlt : k < n.attrs.length
    · obtain ⟨a, rfl, hab, h1, h2⟩ := hat.cells hlt hlt
      cases he : n.attrs[k].1 == nm with
      | true =>
        have HH := Lib.hid (HV.out.trans (valL_here hlt he))
        have HE := Lib.hid he
        generalize n.attrs[k] = x at *
        go_wp2
        go_ret2
        exact ⟨by rw [HH.out]; rfl, ba⟩
      | false =>
        have HH := Lib.hid (HV.out.trans (valL_next hlt he))
        generalize n.attrs[k] = x at *
        go_wp2
        go_round
        case rel => exact ⟨k + 1, by go_num, by omega, HH.out⟩
        case measure => simp [intOf]; omega
    · have HH := Lib.hid (show valL n.attrs nm = none by rw [HV.out, List.drop_of_length_le (by omega)]; rfl)
      go_wp2
      go_ret2
      exact ⟨by rw [HH.out]; rfl, ba⟩
end Go.Proofs.Ytninjljkdbemkaa
