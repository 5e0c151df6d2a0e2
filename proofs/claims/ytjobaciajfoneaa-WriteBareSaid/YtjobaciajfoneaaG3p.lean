/- Plain: nodes, few of all (cut), and made such as may be (good). -/
import Derived.Test.YtjobaciajfoneaaG2
import Derived.Test.YtjobaciajfoneaaWp
namespace Go.Proofs.Ytjobaciajfoneaa

def cutA (a : Atr) : Atr := (a.1.take 30, a.2.take 30)
mutual
def cut1 : Nd → Nat → Nd × Nat
  | .mk k nm ats tx kids, m => (.mk k (nm.take 30) ((ats.take 5).map cutA) (tx.take 30) (cutL kids m).1, (cutL kids m).2)
def cutL : List Nd → Nat → List Nd × Nat
  | [], m => ([], m)
  | n :: l, m => if 0 < m then ((cut1 n (m - 1)).1 :: (cutL l (cut1 n (m - 1)).2).1, (cutL l (cut1 n (m - 1)).2).2) else ([], m)
end
theorem cutL_nil (m : Nat) : cutL [] m = ([], m) := by simp only [cutL]
theorem cutL_zero (l : List Nd) : cutL l 0 = ([], 0) := by cases l <;> simp [cutL]
theorem cutL_cons (n : Nd) (l : List Nd) {m : Nat} (h : 0 < m) : cutL (n :: l) m = ((cut1 n (m - 1)).1 :: (cutL l (cut1 n (m - 1)).2).1, (cutL l (cut1 n (m - 1)).2).2) := by simp [cutL, h]
theorem cut1_eq (n : Nd) (m : Nat) : cut1 n m = (.mk n.kind (n.name.take 30) ((n.attrs.take 5).map cutA) (n.text.take 30) (cutL n.kids m).1, (cutL n.kids m).2) := by
  cases n; simp only [cut1, Nd.kind, Nd.name, Nd.attrs, Nd.text, Nd.kids]
mutual
theorem cut1_le : ∀ (n : Nd) (m : Nat), (cut1 n m).2 ≤ m
  | .mk _ _ _ _ kids, m => by simp only [cut1]; exact cutL_le kids m
theorem cutL_le : ∀ (l : List Nd) (m : Nat), (cutL l m).2 ≤ m
  | [], m => by simp [cutL]
  | n :: l, m => by
    simp only [cutL]
    split
    · have h1 := cut1_le n (m - 1)
      have h2 := cutL_le l (cut1 n (m - 1)).2
      simp only []
      omega
    · exact Nat.le_refl _
end
theorem cutL_length : ∀ (l : List Nd) (m : Nat), (cutL l m).1.length + (cutL l m).2 ≤ m
  | [], m => by simp [cutL]
  | n :: l, m => by
    simp only [cutL]
    split
    · have h1 := cut1_le n (m - 1)
      have h2 := cutL_length l (cut1 n (m - 1)).2
      simp only [List.length_cons]
      omega
    · simp
end Go.Proofs.Ytjobaciajfoneaa
