/- The condition of the cards: the two tables of unicode/utf8 as the program's text lays them; a world that meets it; what it gives the walks. -/
import Derived.Test.YtpfaojghaggagaaDoorRows
import Derived.Test.YtpfaojghaggagaaDoorTie
import Derived.Test.YtpfaojghaggagaaDoorUis
import Derived.Test.YtpfaojghaggagaaDoorOpen
import Derived.PinnedBridge
import Derived.Lib.LaidU8T
import Derived.LaidLaws
import Derived.LaidMore
import Derived.LaidHandle
import Derived.MakeChecks
import Derived.JoinedOf
import Derived.SevenTiedAt
namespace Go.Proofs.YtpfaojghaggagaaDoor
open Go.ChangeShapes Go.WideShapes Go.ChangeAt Go.RowKit

def laid2 : List (String × DataW Unit) := [("unicode/utf8.acceptRanges", Rows.laid_unicode_utf8_acceptRanges), ("unicode/utf8.first", Rows.laid_unicode_utf8_first)]

theorem own : ownKnob Tryd.prog.godebug = none := by kernel_rfl
theorem laidOut : laidOutB Tryd.prog = true := by kernel_rfl

/-- A world that meets the condition: the one that the program's start leaves, the first table laid as Go's text has it. -/
noncomputable def laidWorld (os : Os) : World :=
  let w0 := World.doorLaid Tryd.prog 400 os
  { w0 with heap := w0.heap.modify 0 fun
      | .cells _ t fz => .cells (Lib.firstTab.map (Value.int .u8)).toArray t fz
      | o => o }
theorem laidWorld_met (os : Os) (args : Array Value) : laidMetH Tryd.prog laid2 ((laidWorld os).forCall (fun _ _ => 0) ⟨#[], args, []⟩).memory :=
  laidMetH_of_parts3 (fuel := 8) (laidMet_of_run' 8 (by kernel_rfl) (by kernel_rfl)) (by kernel_rfl) (by kernel_rfl)

theorem accept_eq : (Rows.laid_unicode_utf8_acceptRanges : DataW Unit) = Lib.acceptData := by kernel_rfl

/-- WHAT THE CONDITION GIVES THE WALKS. -/
theorem tabs_of_laid {W : World} (h : laidMetH Tryd.prog laid2 W) : Tabs W := by
  rw [MakeChecks.laidMetH_plain _ _ _ (by kernel_rfl)] at h
  have h4 := Lib.laidMet.reads h (.head _)
  have h3 := Lib.laidMet.reads h (.tail _ (.head _))
  rw [accept_eq] at h4
  rw [show Rows.laid_unicode_utf8_first = Lib.firstData from Pinned.utf8First_eq] at h3
  exact utf8Tabs_of_readsT (ρ := Tryd.lays196_ren) (U8Types.of196 Tryd.lays196) ⟨by kernel_rfl, by kernel_rfl, by kernel_rfl, by kernel_rfl, by kernel_rfl, by kernel_rfl, by kernel_rfl⟩ h3 h4
end Go.Proofs.YtpfaojghaggagaaDoor
