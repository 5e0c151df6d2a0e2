/-
  DERIVED. GIVEN WITH THE SEED: THE CARDS: each row of YtpfaojghaggagaaDoorRows.lean that lists a variable, with what it lists TIED to the program's text (the seventh form; the later family's looks); each row that meets fmt, with fmt's text TOLD by the authors' own Lean function (tested against real Go, not proved from fmt's source: count such statements apart). THE CARD IS WHAT COUNTS. Prove the row's statement (the work); the ties are given (YtpfaojghaggagaaDoorTie.lean); close each card by the builder's one call (the guide's Derived/Test/ToyasCard.lean, 'card_holds'). Laid BY PROGRAM, IN A SANDBOX (cutbox-door.mjs). By AI agents, Wed Nov 11 2026. No macro, syntax, notation, axiom, sorry.
-/
import Derived.Test.YtpfaojghaggagaaDoorRows
import GoSem.ClaimSeven
namespace Go.Proofs.YtpfaojghaggagaaDoor
namespace Rows

/-- THE TIED CARD OF 'strainerlaw01.UtfRights'. -/
def utfRightsCard : Claim7 := { stood := { row := utfRightsRow, standIns := [], harness := (true, "1de56060942224ba0201eee209ffde4086e0004645e1bb41fd30c753599bc7fd"), looks := false }, kinds := [], alts := [], laidByText := true, laidKinds := [.data, .pinned], laidTests := true, laidLooks := .later }
def UtfRightsCardSaid : Prop := Claim7.holds Tryd.pinned (.plain (OpenSpec.ofChange utfRightsSpec)) utfRightsCard

/-- THE TIED CARD OF 'strainerlaw01.UtfTexts'. -/
def utfTextsCard : Claim7 := { stood := { row := utfTextsRow, standIns := [], harness := (true, "1de56060942224ba0201eee209ffde4086e0004645e1bb41fd30c753599bc7fd"), looks := false }, kinds := [], alts := [], laidByText := true, laidKinds := [.data, .pinned], laidTests := true, laidLooks := .later }
def UtfTextsCardSaid : Prop := Claim7.holds Tryd.pinned (.plain (OpenSpec.ofChange utfTextsSpec)) utfTextsCard

/-- THE TIED CARD OF 'strainerlaw01.UtfRunes'. -/
def utfRunesCard : Claim7 := { stood := { row := utfRunesRow, standIns := [], harness := (true, "1de56060942224ba0201eee209ffde4086e0004645e1bb41fd30c753599bc7fd"), looks := false }, kinds := [], alts := [], laidByText := true, laidKinds := [.data, .pinned], laidTests := true, laidLooks := .later }
def UtfRunesCardSaid : Prop := Claim7.holds Tryd.pinned (.plain (OpenSpec.ofChange utfRunesSpec)) utfRunesCard

/-- THE TIED CARD OF 'strainerlaw01.UtfJoins'. -/
def utfJoinsCard : Claim7 := { stood := { row := utfJoinsRow, standIns := [], harness := (true, "1de56060942224ba0201eee209ffde4086e0004645e1bb41fd30c753599bc7fd"), looks := false }, kinds := [], alts := [], laidByText := true, laidKinds := [.data, .pinned], laidTests := true, laidLooks := .later }
def UtfJoinsCardSaid : Prop := Claim7.holds Tryd.pinned (.plain (OpenSpec.ofChange utfJoinsSpec)) utfJoinsCard

/-- THE TIED CARD OF 'strainerlaw01.UtfRound'. -/
def utfRoundCard : Claim7 := { stood := { row := utfRoundRow, standIns := [], harness := (true, "1de56060942224ba0201eee209ffde4086e0004645e1bb41fd30c753599bc7fd"), looks := false }, kinds := [], alts := [], laidByText := true, laidKinds := [.data, .pinned], laidTests := true, laidLooks := .later }
def UtfRoundCardSaid : Prop := Claim7.holds Tryd.pinned (.plain (OpenSpec.ofChange utfRoundSpec)) utfRoundCard

/-- THE TIED CARD OF 'strainerlaw01.UtfFolds'. -/
def utfFoldsCard : Claim7 := { stood := { row := utfFoldsRow, standIns := [], harness := (true, "1de56060942224ba0201eee209ffde4086e0004645e1bb41fd30c753599bc7fd"), looks := false }, kinds := [], alts := [], laidByText := true, laidKinds := [.data, .pinned], laidTests := true, laidLooks := .later }
def UtfFoldsCardSaid : Prop := Claim7.holds Tryd.pinned (.plain (OpenSpec.ofChange utfFoldsSpec)) utfFoldsCard

/-- THE TIED CARD OF 'strainerlaw02.RefsRight'. -/
def refsRightCard : Claim7 := { stood := { row := refsRightRow, standIns := [], harness := (true, "1de56060942224ba0201eee209ffde4086e0004645e1bb41fd30c753599bc7fd"), looks := false }, kinds := [], alts := [], laidByText := true, laidKinds := [.data, .pinned], laidTests := true, laidLooks := .later }
def RefsRightCardSaid : Prop := Claim7.holds Tryd.pinned (.plain (OpenSpec.ofChange refsRightSpec)) refsRightCard

/-- THE SECOND FORM's CARD OF 'strainerlaw01.UtfRights'. -/
def utfRightsUptoCard : Claim7 := { stood := { row := utfRightsUptoRow, standIns := [], harness := (true, "1de56060942224ba0201eee209ffde4086e0004645e1bb41fd30c753599bc7fd"), looks := false }, kinds := [], alts := [], laidByText := true, laidKinds := [.data, .pinned], laidTests := true, laidLooks := .later }
def UtfRightsUptoCardSaid : Prop := Claim7.holds Tryd.pinned (.plain (OpenSpec.upto utfRightsSpec)) utfRightsUptoCard

/-- THE SECOND FORM's CARD OF 'strainerlaw01.UtfTexts'. -/
def utfTextsUptoCard : Claim7 := { stood := { row := utfTextsUptoRow, standIns := [], harness := (true, "1de56060942224ba0201eee209ffde4086e0004645e1bb41fd30c753599bc7fd"), looks := false }, kinds := [], alts := [], laidByText := true, laidKinds := [.data, .pinned], laidTests := true, laidLooks := .later }
def UtfTextsUptoCardSaid : Prop := Claim7.holds Tryd.pinned (.plain (OpenSpec.upto utfTextsSpec)) utfTextsUptoCard

/-- THE SECOND FORM's CARD OF 'strainerlaw01.UtfRunes'. -/
def utfRunesUptoCard : Claim7 := { stood := { row := utfRunesUptoRow, standIns := [], harness := (true, "1de56060942224ba0201eee209ffde4086e0004645e1bb41fd30c753599bc7fd"), looks := false }, kinds := [], alts := [], laidByText := true, laidKinds := [.data, .pinned], laidTests := true, laidLooks := .later }
def UtfRunesUptoCardSaid : Prop := Claim7.holds Tryd.pinned (.plain (OpenSpec.upto utfRunesSpec)) utfRunesUptoCard

/-- THE SECOND FORM's CARD OF 'strainerlaw01.UtfJoins'. -/
def utfJoinsUptoCard : Claim7 := { stood := { row := utfJoinsUptoRow, standIns := [], harness := (true, "1de56060942224ba0201eee209ffde4086e0004645e1bb41fd30c753599bc7fd"), looks := false }, kinds := [], alts := [], laidByText := true, laidKinds := [.data, .pinned], laidTests := true, laidLooks := .later }
def UtfJoinsUptoCardSaid : Prop := Claim7.holds Tryd.pinned (.plain (OpenSpec.upto utfJoinsSpec)) utfJoinsUptoCard

/-- THE SECOND FORM's CARD OF 'strainerlaw01.UtfRound'. -/
def utfRoundUptoCard : Claim7 := { stood := { row := utfRoundUptoRow, standIns := [], harness := (true, "1de56060942224ba0201eee209ffde4086e0004645e1bb41fd30c753599bc7fd"), looks := false }, kinds := [], alts := [], laidByText := true, laidKinds := [.data, .pinned], laidTests := true, laidLooks := .later }
def UtfRoundUptoCardSaid : Prop := Claim7.holds Tryd.pinned (.plain (OpenSpec.upto utfRoundSpec)) utfRoundUptoCard

/-- THE SECOND FORM's CARD OF 'strainerlaw01.UtfFolds'. -/
def utfFoldsUptoCard : Claim7 := { stood := { row := utfFoldsUptoRow, standIns := [], harness := (true, "1de56060942224ba0201eee209ffde4086e0004645e1bb41fd30c753599bc7fd"), looks := false }, kinds := [], alts := [], laidByText := true, laidKinds := [.data, .pinned], laidTests := true, laidLooks := .later }
def UtfFoldsUptoCardSaid : Prop := Claim7.holds Tryd.pinned (.plain (OpenSpec.upto utfFoldsSpec)) utfFoldsUptoCard

/-- THE SECOND FORM's CARD OF 'strainerlaw02.RefsRight'. -/
def refsRightUptoCard : Claim7 := { stood := { row := refsRightUptoRow, standIns := [], harness := (true, "1de56060942224ba0201eee209ffde4086e0004645e1bb41fd30c753599bc7fd"), looks := false }, kinds := [], alts := [], laidByText := true, laidKinds := [.data, .pinned], laidTests := true, laidLooks := .later }
def RefsRightUptoCardSaid : Prop := Claim7.holds Tryd.pinned (.plain (OpenSpec.upto refsRightSpec)) refsRightUptoCard
end Rows
end Go.Proofs.YtpfaojghaggagaaDoor
