/- Plain laws for the reference of layer 1: what its One computes is the decoding of the first character. No program in sight. -/
import Derived.Test.YtninjljkdbemkaaUtf
namespace Go.Proofs.Ytninjljkdbemkaa
open Go.Lib

/-- byte k as a number -/
def by_ (l : List UInt8) (k : Nat) : Nat := (l.getD k 0).toNat
theorem by_lt (l : List UInt8) (k : Nat) : by_ l k < 256 := UInt8.toNat_lt _
/-- does byte k go on? -/
def goes (l : List UInt8) (k : Nat) : Prop := 128 ≤ by_ l k ∧ by_ l k < 192
instance (l : List UInt8) (k : Nat) : Decidable (goes l k) := inferInstanceAs (Decidable (_ ∧ _))
/-- the number behind k further bytes -/
def val (l : List UInt8) (lead : Int) : Nat → Int
  | 0 => (by_ l 0 : Int) - lead
  | k + 1 => 64 * val l lead k + (by_ l (k + 1) : Int) - 128

theorem val_succ (l : List UInt8) (d : Int) (k : Nat) : val l d (k + 1) = 64 * val l d k + (by_ l (k + 1) : Int) - 128 := rfl
theorem val0 (l : List UInt8) (d : Int) : val l d 0 = (by_ l 0 : Int) - d := rfl
theorem val1 (l : List UInt8) (d : Int) : val l d 1 = 64 * ((by_ l 0 : Int) - d) + (by_ l 1 : Int) - 128 := rfl
theorem val2 (l : List UInt8) (d : Int) : val l d 2 = 64 * (64 * ((by_ l 0 : Int) - d) + (by_ l 1 : Int) - 128) + (by_ l 2 : Int) - 128 := rfl
theorem val3 (l : List UInt8) (d : Int) : val l d 3 = 64 * (64 * (64 * ((by_ l 0 : Int) - d) + (by_ l 1 : Int) - 128) + (by_ l 2 : Int) - 128) + (by_ l 3 : Int) - 128 := rfl
/-- the form of a first byte: how many bytes, what is taken off, the least number -/
def Form (c : Nat) (K : Nat) (lead least : Int) : Prop :=
  (K = 2 ∧ lead = 192 ∧ least = 128 ∧ 192 ≤ c ∧ c < 224) ∨ (K = 3 ∧ lead = 224 ∧ least = 2048 ∧ 224 ≤ c ∧ c < 240) ∨ (K = 4 ∧ lead = 240 ∧ least = 65536 ∧ 240 ≤ c ∧ c < 248)

theorem one_ascii {l : List UInt8} (h : by_ l 0 < 128) : decodeL l = (by_ l 0, 1) := by
  rw [decodeL_N]; unfold by_ at *
  rw [decodeN, if_pos h]
theorem one_stray {l : List UInt8} (h : (128 ≤ by_ l 0 ∧ by_ l 0 < 192) ∨ 248 ≤ by_ l 0) : decodeL l = (65533, 1) := by
  have h0 := by_lt l 0
  rw [decodeL_N]; unfold by_ at *
  rcases decodeN_shape l.length (l.getD 0 0).toNat (l.getD 1 0).toNat (l.getD 2 0).toNat (l.getD 3 0).toNat with ⟨c, e⟩ | ⟨c1, c2, c3, cv, e⟩ | ⟨c1, c2, c3, c4, cv, cs, e⟩ | ⟨c1, c2, c3, c4, c5, cv, cw, e⟩ | e
  · omega
  · omega
  · omega
  · omega
  · exact e
theorem one_short {l : List UInt8} {K : Nat} {lead least : Int} (hf : Form (by_ l 0) K lead least) (h : l.length < K) : decodeL l = (65533, 1) := by
  rw [decodeL_N]; unfold Form by_ at *
  rcases decodeN_shape l.length (l.getD 0 0).toNat (l.getD 1 0).toNat (l.getD 2 0).toNat (l.getD 3 0).toNat with ⟨c, e⟩ | ⟨c1, c2, c3, cv, e⟩ | ⟨c1, c2, c3, c4, cv, cs, e⟩ | ⟨c1, c2, c3, c4, c5, cv, cw, e⟩ | e
  · omega
  · omega
  · omega
  · omega
  · exact e
theorem one_stops {l : List UInt8} {K k : Nat} {lead least : Int} (hf : Form (by_ l 0) K lead least) (h1 : 1 ≤ k) (h2 : k < K) (h : ¬ goes l k) : decodeL l = (65533, 1) := by
  rw [decodeL_N]; unfold Form goes by_ at *
  have h3 : k = 1 ∨ k = 2 ∨ k = 3 := by omega
  rcases decodeN_shape l.length (l.getD 0 0).toNat (l.getD 1 0).toNat (l.getD 2 0).toNat (l.getD 3 0).toNat with ⟨c, e⟩ | ⟨c1, c2, c3, cv, e⟩ | ⟨c1, c2, c3, c4, cv, cs, e⟩ | ⟨c1, c2, c3, c4, c5, cv, cw, e⟩ | e
  · omega
  · rcases h3 with rfl | rfl | rfl <;> omega
  · rcases h3 with rfl | rfl | rfl <;> omega
  · rcases h3 with rfl | rfl | rfl <;> omega
  · exact e
def badVal (v least : Int) : Prop := v < least ∨ v > 1114111 ∨ (55296 ≤ v ∧ v ≤ 57343)
theorem one_bad {l : List UInt8} {K : Nat} {lead least : Int} (hf : Form (by_ l 0) K lead least) (h : ∀ k, 1 ≤ k → k < K → goes l k) (hb : badVal (val l lead (K - 1)) least) : decodeL l = (65533, 1) := by
  have g1 := h 1 (Nat.le_refl _)
  have g2 := h 2 (by omega)
  have g3 := h 3 (by omega)
  rw [decodeL_N]; unfold badVal Form goes at *
  rcases decodeN_shape l.length (l.getD 0 0).toNat (l.getD 1 0).toNat (l.getD 2 0).toNat (l.getD 3 0).toNat with ⟨c, e⟩ | ⟨c1, c2, c3, cv, e⟩ | ⟨c1, c2, c3, c4, cv, cs, e⟩ | ⟨c1, c2, c3, c4, c5, cv, cw, e⟩ | e
  · unfold by_ at *; omega
  · obtain rfl : K = 2 := by unfold by_ at *; omega
    have g1 := g1 (by omega)
    clear g2 g3 h
    simp only [Nat.reduceSub, val1, val2, val3] at hb
    unfold by_ at *; omega
  · obtain rfl : K = 3 := by unfold by_ at *; omega
    have g1 := g1 (by omega)
    have g2 := g2 (by omega)
    clear g3 h
    simp only [Nat.reduceSub, val1, val2, val3] at hb
    unfold by_ at *; omega
  · obtain rfl : K = 4 := by unfold by_ at *; omega
    have g1 := g1 (by omega)
    have g2 := g2 (by omega)
    have g3 := g3 (by omega)
    clear h
    simp only [Nat.reduceSub, val1, val2, val3] at hb
    unfold by_ at *; omega
  · exact e
theorem one_good {l : List UInt8} {K : Nat} {lead least : Int} (hf : Form (by_ l 0) K lead least) (hn : K ≤ l.length) (h : ∀ k, 1 ≤ k → k < K → goes l k) (hb : ¬ badVal (val l lead (K - 1)) least) : decodeL l = ((val l lead (K - 1)).toNat, K) := by
  have g1 := h 1 (Nat.le_refl _)
  have g2 := h 2 (by omega)
  have g3 := h 3 (by omega)
  clear h
  rw [decodeL_N]; unfold badVal goes at *
  rcases hf with ⟨rfl, rfl, rfl, f1, f2⟩ | ⟨rfl, rfl, rfl, f1, f2⟩ | ⟨rfl, rfl, rfl, f1, f2⟩
  · have g1 := g1 (by omega)
    clear g2 g3
    simp only [Nat.add_one_sub_one, Nat.reduceSub, val1, val2, val3] at hb ⊢
    unfold by_ at *
    rw [decodeN, if_neg (by omega), if_pos (by omega), if_pos (by omega)]
    congr 1; omega
  · have g1 := g1 (by omega)
    have g2 := g2 (by omega)
    clear g3
    simp only [Nat.add_one_sub_one, Nat.reduceSub, val1, val2, val3] at hb ⊢
    unfold by_ at *
    rw [decodeN, if_neg (by omega), if_neg (by omega), if_pos (by omega), if_pos (by omega)]
    congr 1; omega
  · have g1 := g1 (by omega)
    have g2 := g2 (by omega)
    have g3 := g3 (by omega)
    simp only [Nat.add_one_sub_one, Nat.reduceSub, val1, val2, val3] at hb ⊢
    unfold by_ at *
    rw [decodeN, if_neg (by omega), if_neg (by omega), if_neg (by omega), if_pos (by omega), if_pos (by omega)]
    congr 1; omega
/-- bounds, so that no sum wraps -/
theorem val_bd {l : List UInt8} {K k : Nat} {lead least : Int} (hf : Form (by_ l 0) K lead least) (hk : k < K) (h : ∀ j, 1 ≤ j → j ≤ k → goes l j) : 0 ≤ val l lead k ∧ val l lead k ≤ 8388607 := by
  have g1 := h 1 (Nat.le_refl _)
  have g2 := h 2 (by omega)
  have g3 := h 3 (by omega)
  clear h
  unfold Form goes at *
  have h3 : k = 0 ∨ k = 1 ∨ k = 2 ∨ k = 3 := by omega
  rcases h3 with rfl | rfl | rfl | rfl
  · simp only [val0, val1, val2, val3]; omega
  · have g1 := g1 (by omega)
    clear g2 g3
    simp only [val0, val1, val2, val3]; omega
  · have g1 := g1 (by omega)
    have g2 := g2 (by omega)
    clear g3
    simp only [val0, val1, val2, val3]; omega
  · have g1 := g1 (by omega)
    have g2 := g2 (by omega)
    have g3 := g3 (by omega)
    simp only [val0, val1, val2, val3]; omega
end Go.Proofs.Ytninjljkdbemkaa
