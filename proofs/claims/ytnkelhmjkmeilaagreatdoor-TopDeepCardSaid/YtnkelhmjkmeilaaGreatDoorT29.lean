/- The law's lives. -/
import Derived.Test.YtnkelhmjkmeilaaGreatDoorT24
import Derived.Test.YtnkelhmjkmeilaaGreatDoorT27
section
namespace Go.Proofs.YtnkelhmjkmeilaaGreatDoor.H
open Go.RowKit Go.Maps Go.WideMaps
attribute [local go_sem ↓] Go.wp_at_zero Go.wp_at_succ
theorem SlP.block {w : World} {S : Nat → Prop} {g z n : Nat} {cs : List Cl} {xs : List Value} {e : TypeId} (hg : w.heap[g]? = some (.cells xs.toArray e (0, 0))) (hS : S g) (hl : xs.length = n * z) (hc : CsIsP w S cs xs) : SlP w S z (some ⟨g, 0, none⟩) n cs :=
  ⟨xs, ⟨hl, fun _ => ⟨_, rfl, hS, fun j u hu => World.news_of_block (fr := (0, 0)) hg j u hu⟩⟩, hc⟩
def hl0 : Hd := ⟨1, [⟨[[0]], [0]⟩], ⟨[[0]], [1]⟩⟩
end Go.Proofs.YtnkelhmjkmeilaaGreatDoor.H
end
