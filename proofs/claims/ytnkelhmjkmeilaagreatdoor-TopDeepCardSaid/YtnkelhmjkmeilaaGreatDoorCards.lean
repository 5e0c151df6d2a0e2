/-
  DERIVED. GIVEN WITH THE SEED: THE CARDS: each row of YtnkelhmjkmeilaaGreatDoorRows.lean that lists a variable, with what it lists TIED to the program's text (the seventh form; the later family's looks); each row that meets fmt, with fmt's text TOLD by the authors' own Lean function (tested against real Go, not proved from fmt's source: count such statements apart). THE CARD IS WHAT COUNTS. Prove the row's statement (the work); the ties are given (YtnkelhmjkmeilaaGreatDoorTie.lean); close each card by the builder's one call (the guide's Derived/Test/ToyasCard.lean, 'card_holds'). Laid BY PROGRAM, IN A SANDBOX (cutbox-door.mjs). By AI agents, Wed Nov 11 2026. No macro, syntax, notation, axiom, sorry.
-/
import Derived.Test.YtnkelhmjkmeilaaGreatDoorRows
import GoSem.ClaimSeven
namespace Go.Proofs.YtnkelhmjkmeilaaGreatDoor
namespace Rows

/-- THE TIED CARD OF 'strainertop.TopDeep'. -/
def topDeepCard : Claim7 := { stood := { row := topDeepRow, standIns := [], harness := (true, "765d6d02f7383bbe6fcbd4e7b2aa6852d8b6550210ae26ec65cdf285bfd92b47"), looks := true }, kinds := [], alts := [], laidByText := true, laidKinds := [.data, .data, .data], laidTests := true, laidLooks := .later }
def TopDeepCardSaid : Prop := Claim7.holds Tryz.pinned (.plain (OpenSpec.ofChange topDeepSpec)) topDeepCard

/-- THE SECOND FORM's CARD OF 'strainertop.TopDeep'. -/
def topDeepUptoCard : Claim7 := { stood := { row := topDeepUptoRow, standIns := [], harness := (true, "765d6d02f7383bbe6fcbd4e7b2aa6852d8b6550210ae26ec65cdf285bfd92b47"), looks := true }, kinds := [], alts := [], laidByText := true, laidKinds := [.data, .data, .data], laidTests := true, laidLooks := .later }
def TopDeepUptoCardSaid : Prop := Claim7.holds Tryz.pinned (.plain (OpenSpec.upto topDeepSpec)) topDeepUptoCard
end Rows
end Go.Proofs.YtnkelhmjkmeilaaGreatDoor
