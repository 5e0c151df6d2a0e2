/-
  NARROWER THAN 'FOR EVERY INPUT', by the rows' own cells (each row's printed sentence says how): UtfRights: laid · UtfTexts: laid · UtfRunes: laid · UtfJoins: laid · UtfRound: laid · UtfFolds: laid · RefsRight: laid.
  DERIVED. THE GIVEN ROWS OF THIS SEAT. 7 by the template 'for every input the law returns true; each argument reads behind the call as it read before'; 0 by the template 'total and deterministic' (their statements: YtpfaojghaggagaaDoorTotals.lean).
  GIVEN WITH THE SEED: the statements are not yours to turn. If you find one false, say at which input.
  Laid BY PROGRAM, IN A SANDBOX (cutbox-rows.mjs): the forced cells as the released guide's own fill.sh prints them over the translation 242130c14802b4dc… (all of the seat's roots in one cut). By AI agents, Wed Nov 11 2026. No macro, syntax, notation, axiom, sorry.
-/
import Derived.Test.YtpfaojghaggagaaDoorChecked
import GoSem.PinnedTables
import GoSem.Claim
import GoSem.ClaimJoined
import GoSem.ClaimMapViews
import Derived.JoinedTies
import Derived.KernelRfl
namespace Go.Proofs.YtpfaojghaggagaaDoor
/- THE CELL 'sum', in the pinned program and in every row, IS THE sha256 OF THE DUMP (.gsa) THAT YtpfaojghaggagaaDoorProg.lean LOADS. Nothing in Lean hashes anything: it is a label: what it is worth is what the hold of that sum in a sandbox is worth. -/
noncomputable def Tryd.pinned : Pinned := { name := "ytpfaojghaggagaadoor", sum := "242130c14802b4dc83bb691f7ee91488e583887c524df0e30c5ca68c2a2cee9f", checked := Tryd.checked }
namespace Rows
def none {H : Type} : Left H := { results := [], args := [] }

/- WHAT THE LISTED PACKAGE-LEVEL VARIABLES READ AS WHEN THE CALL BEGINS. Each datum BY PROGRAM (the guide's laid-datum.mjs) off the statement by which the dump's own 'gosem.cut.vars' lays the variable. In a bare row this is a premise. The card (YtpfaojghaggagaaDoorCards.lean) ties it to the program's text. -/
def laid_unicode_utf8_acceptRanges {H : Type} : DataW H := .agg [.agg [.lit (.int .u8 128), .lit (.int .u8 191)], .agg [.lit (.int .u8 160), .lit (.int .u8 191)], .agg [.lit (.int .u8 128), .lit (.int .u8 159)], .agg [.lit (.int .u8 144), .lit (.int .u8 191)], .agg [.lit (.int .u8 128), .lit (.int .u8 143)], .agg [.lit (.int .u8 0), .lit (.int .u8 0)], .agg [.lit (.int .u8 0), .lit (.int .u8 0)], .agg [.lit (.int .u8 0), .lit (.int .u8 0)], .agg [.lit (.int .u8 0), .lit (.int .u8 0)], .agg [.lit (.int .u8 0), .lit (.int .u8 0)], .agg [.lit (.int .u8 0), .lit (.int .u8 0)], .agg [.lit (.int .u8 0), .lit (.int .u8 0)], .agg [.lit (.int .u8 0), .lit (.int .u8 0)], .agg [.lit (.int .u8 0), .lit (.int .u8 0)], .agg [.lit (.int .u8 0), .lit (.int .u8 0)], .agg [.lit (.int .u8 0), .lit (.int .u8 0)]]
/-- One of Go's own tables, pinned by name: the form's constant. -/
def laid_unicode_utf8_first : DataW Unit := Go.Pinned.utf8First

/-- 'strainerlaw01.UtfRights': WHATEVER THE INPUT: true; the input reads as it did. -/
def utfRightsSpec : ChangeSpec := { name := "utfRights", fn := fun _ => fun
  | [d] => { results := [.lit (.bool true)], args := [d] }
  | _ => none }
def utfRightsRow : OpenClaim := { program := "ytpfaojghaggagaadoor", sum := "242130c14802b4dc83bb691f7ee91488e583887c524df0e30c5ca68c2a2cee9f", func := "strainer/strainerlaw01.UtfRights", spec := "utfRights", inPlace := ["internal/abi.NoEscape"], named := ["unicode/utf8.first", "unicode/utf8.acceptRanges"], apart := false, laid := [("unicode/utf8.acceptRanges", laid_unicode_utf8_acceptRanges), ("unicode/utf8.first", laid_unicode_utf8_first)] }
def UtfRightsSaid : Prop := utfRightsRow.holds Tryd.pinned (OpenSpec.ofChange utfRightsSpec)

/-- ITS FALSE NEIGHBOUR: 'it returns false'. Refute it at one input. -/
def utfRightsWrong : ChangeSpec := { name := "utfRights", fn := fun _ => fun
  | [d] => { results := [.lit (.bool false)], args := [d] }
  | _ => none }
def UtfRightsWrongFalsely : Prop := utfRightsRow.holds Tryd.pinned (OpenSpec.ofChange utfRightsWrong)

/-- 'strainerlaw01.UtfTexts': WHATEVER THE INPUT: true; the input reads as it did. -/
def utfTextsSpec : ChangeSpec := { name := "utfTexts", fn := fun _ => fun
  | [d] => { results := [.lit (.bool true)], args := [d] }
  | _ => none }
def utfTextsRow : OpenClaim := { program := "ytpfaojghaggagaadoor", sum := "242130c14802b4dc83bb691f7ee91488e583887c524df0e30c5ca68c2a2cee9f", func := "strainer/strainerlaw01.UtfTexts", spec := "utfTexts", inPlace := ["internal/abi.NoEscape"], named := ["unicode/utf8.first", "unicode/utf8.acceptRanges"], apart := false, laid := [("unicode/utf8.acceptRanges", laid_unicode_utf8_acceptRanges), ("unicode/utf8.first", laid_unicode_utf8_first)] }
def UtfTextsSaid : Prop := utfTextsRow.holds Tryd.pinned (OpenSpec.ofChange utfTextsSpec)

/-- ITS FALSE NEIGHBOUR: 'it returns false'. Refute it at one input. -/
def utfTextsWrong : ChangeSpec := { name := "utfTexts", fn := fun _ => fun
  | [d] => { results := [.lit (.bool false)], args := [d] }
  | _ => none }
def UtfTextsWrongFalsely : Prop := utfTextsRow.holds Tryd.pinned (OpenSpec.ofChange utfTextsWrong)

/-- 'strainerlaw01.UtfRunes': WHATEVER THE INPUT: true; the input reads as it did. -/
def utfRunesSpec : ChangeSpec := { name := "utfRunes", fn := fun _ => fun
  | [d] => { results := [.lit (.bool true)], args := [d] }
  | _ => none }
def utfRunesRow : OpenClaim := { program := "ytpfaojghaggagaadoor", sum := "242130c14802b4dc83bb691f7ee91488e583887c524df0e30c5ca68c2a2cee9f", func := "strainer/strainerlaw01.UtfRunes", spec := "utfRunes", inPlace := ["internal/abi.NoEscape"], named := ["unicode/utf8.first", "unicode/utf8.acceptRanges"], apart := false, laid := [("unicode/utf8.acceptRanges", laid_unicode_utf8_acceptRanges), ("unicode/utf8.first", laid_unicode_utf8_first)] }
def UtfRunesSaid : Prop := utfRunesRow.holds Tryd.pinned (OpenSpec.ofChange utfRunesSpec)

/-- ITS FALSE NEIGHBOUR: 'it returns false'. Refute it at one input. -/
def utfRunesWrong : ChangeSpec := { name := "utfRunes", fn := fun _ => fun
  | [d] => { results := [.lit (.bool false)], args := [d] }
  | _ => none }
def UtfRunesWrongFalsely : Prop := utfRunesRow.holds Tryd.pinned (OpenSpec.ofChange utfRunesWrong)

/-- 'strainerlaw01.UtfJoins': WHATEVER THE INPUT: true; the input reads as it did. -/
def utfJoinsSpec : ChangeSpec := { name := "utfJoins", fn := fun _ => fun
  | [d1, d2] => { results := [.lit (.bool true)], args := [d1, d2] }
  | _ => none }
def utfJoinsRow : OpenClaim := { program := "ytpfaojghaggagaadoor", sum := "242130c14802b4dc83bb691f7ee91488e583887c524df0e30c5ca68c2a2cee9f", func := "strainer/strainerlaw01.UtfJoins", spec := "utfJoins", inPlace := ["internal/abi.NoEscape"], named := ["unicode/utf8.first", "unicode/utf8.acceptRanges"], apart := false, laid := [("unicode/utf8.acceptRanges", laid_unicode_utf8_acceptRanges), ("unicode/utf8.first", laid_unicode_utf8_first)] }
def UtfJoinsSaid : Prop := utfJoinsRow.holds Tryd.pinned (OpenSpec.ofChange utfJoinsSpec)

/-- ITS FALSE NEIGHBOUR: 'it returns false'. Refute it at one input. -/
def utfJoinsWrong : ChangeSpec := { name := "utfJoins", fn := fun _ => fun
  | [d1, d2] => { results := [.lit (.bool false)], args := [d1, d2] }
  | _ => none }
def UtfJoinsWrongFalsely : Prop := utfJoinsRow.holds Tryd.pinned (OpenSpec.ofChange utfJoinsWrong)

/-- 'strainerlaw01.UtfRound': WHATEVER THE INPUT: true; the input reads as it did. -/
def utfRoundSpec : ChangeSpec := { name := "utfRound", fn := fun _ => fun
  | [d] => { results := [.lit (.bool true)], args := [d] }
  | _ => none }
def utfRoundRow : OpenClaim := { program := "ytpfaojghaggagaadoor", sum := "242130c14802b4dc83bb691f7ee91488e583887c524df0e30c5ca68c2a2cee9f", func := "strainer/strainerlaw01.UtfRound", spec := "utfRound", inPlace := ["internal/abi.NoEscape"], named := ["unicode/utf8.first", "unicode/utf8.acceptRanges"], apart := false, laid := [("unicode/utf8.acceptRanges", laid_unicode_utf8_acceptRanges), ("unicode/utf8.first", laid_unicode_utf8_first)] }
def UtfRoundSaid : Prop := utfRoundRow.holds Tryd.pinned (OpenSpec.ofChange utfRoundSpec)

/-- ITS FALSE NEIGHBOUR: 'it returns false'. Refute it at one input. -/
def utfRoundWrong : ChangeSpec := { name := "utfRound", fn := fun _ => fun
  | [d] => { results := [.lit (.bool false)], args := [d] }
  | _ => none }
def UtfRoundWrongFalsely : Prop := utfRoundRow.holds Tryd.pinned (OpenSpec.ofChange utfRoundWrong)

/-- 'strainerlaw01.UtfFolds': WHATEVER THE INPUT: true; the input reads as it did. -/
def utfFoldsSpec : ChangeSpec := { name := "utfFolds", fn := fun _ => fun
  | [d1, d2] => { results := [.lit (.bool true)], args := [d1, d2] }
  | _ => none }
def utfFoldsRow : OpenClaim := { program := "ytpfaojghaggagaadoor", sum := "242130c14802b4dc83bb691f7ee91488e583887c524df0e30c5ca68c2a2cee9f", func := "strainer/strainerlaw01.UtfFolds", spec := "utfFolds", inPlace := ["internal/abi.NoEscape"], named := ["unicode/utf8.first", "unicode/utf8.acceptRanges"], apart := false, laid := [("unicode/utf8.acceptRanges", laid_unicode_utf8_acceptRanges), ("unicode/utf8.first", laid_unicode_utf8_first)] }
def UtfFoldsSaid : Prop := utfFoldsRow.holds Tryd.pinned (OpenSpec.ofChange utfFoldsSpec)

/-- ITS FALSE NEIGHBOUR: 'it returns false'. Refute it at one input. -/
def utfFoldsWrong : ChangeSpec := { name := "utfFolds", fn := fun _ => fun
  | [d1, d2] => { results := [.lit (.bool false)], args := [d1, d2] }
  | _ => none }
def UtfFoldsWrongFalsely : Prop := utfFoldsRow.holds Tryd.pinned (OpenSpec.ofChange utfFoldsWrong)

/-- 'strainerlaw02.RefsRight': WHATEVER THE INPUT: true; the input reads as it did. -/
def refsRightSpec : ChangeSpec := { name := "refsRight", fn := fun _ => fun
  | [d] => { results := [.lit (.bool true)], args := [d] }
  | _ => none }
def refsRightRow : OpenClaim := { program := "ytpfaojghaggagaadoor", sum := "242130c14802b4dc83bb691f7ee91488e583887c524df0e30c5ca68c2a2cee9f", func := "strainer/strainerlaw02.RefsRight", spec := "refsRight", inPlace := ["internal/bytealg.IndexByteString", "internal/abi.NoEscape"], named := ["unicode/utf8.first", "unicode/utf8.acceptRanges"], apart := false, laid := [("unicode/utf8.acceptRanges", laid_unicode_utf8_acceptRanges), ("unicode/utf8.first", laid_unicode_utf8_first)] }
def RefsRightSaid : Prop := refsRightRow.holds Tryd.pinned (OpenSpec.ofChange refsRightSpec)

/-- ITS FALSE NEIGHBOUR: 'it returns false'. Refute it at one input. -/
def refsRightWrong : ChangeSpec := { name := "refsRight", fn := fun _ => fun
  | [d] => { results := [.lit (.bool false)], args := [d] }
  | _ => none }
def RefsRightWrongFalsely : Prop := refsRightRow.holds Tryd.pinned (OpenSpec.ofChange refsRightWrong)

/- THE SECOND FORM. 'bulk': how many values and letters a reading holds, each counted each time it is reached (what is shared counts as often as it is met; a slice's spare places count too). A statement '..UptoSaid' is the law's where the arguments, and the package variables that the reading takes, are together of bulk at most 1048576: NARROWER than '..Said'. Prove '..Said' where nothing that the law and all that it calls make is longer than what came in: it says more and counts as full. Else prove '..UptoSaid'. A law counts once. -/
mutual
def uptoBulk {H : Type} : DataW H → Nat
  | .lit (.string bytes) => bytes.length + 1
  | .lit _ => 1
  | .nil => 1
  | .ptr d => uptoBulk d + 1
  | .slice elems spare => uptoBulkAll elems + uptoBulkAll spare + 1
  | .agg parts => uptoBulkAll parts + 1
  | .iface _ d => uptoBulk d + 1
  | .map entries => uptoBulkEntries entries + 1
  | .held _ => 1
def uptoBulkAll {H : Type} : List (DataW H) → Nat
  | [] => 0
  | d :: r => uptoBulk d + uptoBulkAll r
def uptoBulkEntries {H : Type} : List (Lit × DataW H) → Nat
  | [] => 0
  | x :: r => uptoBulkEntry x + uptoBulkEntries r
def uptoBulkEntry {H : Type} : Lit × DataW H → Nat
  | (.string bytes, d) => bytes.length + uptoBulk d + 1
  | (_, d) => uptoBulk d + 1
 end
def uptoSmall : (H : Type) → List (DataW H) → Bool := fun _ ds => decide (uptoBulkAll ds ≤ 1048576)
def OpenSpec.upto (s : _root_.Go.ChangeSpec) : _root_.Go.OpenSpec := { _root_.Go.OpenSpec.ofChange s with cond := some uptoSmall }

/-- 'strainerlaw01.UtfRights', WHERE WHAT IT READS IS OF BULK AT MOST 1048576: true; the input reads as it did. -/
def utfRightsUptoRow : OpenClaim := { program := "ytpfaojghaggagaadoor", sum := "242130c14802b4dc83bb691f7ee91488e583887c524df0e30c5ca68c2a2cee9f", func := "strainer/strainerlaw01.UtfRights", spec := "utfRights", inPlace := ["internal/abi.NoEscape"], named := ["unicode/utf8.first", "unicode/utf8.acceptRanges"], apart := false, laid := [("unicode/utf8.acceptRanges", laid_unicode_utf8_acceptRanges), ("unicode/utf8.first", laid_unicode_utf8_first)], narrowed := true }
def UtfRightsUptoSaid : Prop := utfRightsUptoRow.holds Tryd.pinned (OpenSpec.upto utfRightsSpec)

/-- 'strainerlaw01.UtfTexts', WHERE WHAT IT READS IS OF BULK AT MOST 1048576: true; the input reads as it did. -/
def utfTextsUptoRow : OpenClaim := { program := "ytpfaojghaggagaadoor", sum := "242130c14802b4dc83bb691f7ee91488e583887c524df0e30c5ca68c2a2cee9f", func := "strainer/strainerlaw01.UtfTexts", spec := "utfTexts", inPlace := ["internal/abi.NoEscape"], named := ["unicode/utf8.first", "unicode/utf8.acceptRanges"], apart := false, laid := [("unicode/utf8.acceptRanges", laid_unicode_utf8_acceptRanges), ("unicode/utf8.first", laid_unicode_utf8_first)], narrowed := true }
def UtfTextsUptoSaid : Prop := utfTextsUptoRow.holds Tryd.pinned (OpenSpec.upto utfTextsSpec)

/-- 'strainerlaw01.UtfRunes', WHERE WHAT IT READS IS OF BULK AT MOST 1048576: true; the input reads as it did. -/
def utfRunesUptoRow : OpenClaim := { program := "ytpfaojghaggagaadoor", sum := "242130c14802b4dc83bb691f7ee91488e583887c524df0e30c5ca68c2a2cee9f", func := "strainer/strainerlaw01.UtfRunes", spec := "utfRunes", inPlace := ["internal/abi.NoEscape"], named := ["unicode/utf8.first", "unicode/utf8.acceptRanges"], apart := false, laid := [("unicode/utf8.acceptRanges", laid_unicode_utf8_acceptRanges), ("unicode/utf8.first", laid_unicode_utf8_first)], narrowed := true }
def UtfRunesUptoSaid : Prop := utfRunesUptoRow.holds Tryd.pinned (OpenSpec.upto utfRunesSpec)

/-- 'strainerlaw01.UtfJoins', WHERE WHAT IT READS IS OF BULK AT MOST 1048576: true; the input reads as it did. -/
def utfJoinsUptoRow : OpenClaim := { program := "ytpfaojghaggagaadoor", sum := "242130c14802b4dc83bb691f7ee91488e583887c524df0e30c5ca68c2a2cee9f", func := "strainer/strainerlaw01.UtfJoins", spec := "utfJoins", inPlace := ["internal/abi.NoEscape"], named := ["unicode/utf8.first", "unicode/utf8.acceptRanges"], apart := false, laid := [("unicode/utf8.acceptRanges", laid_unicode_utf8_acceptRanges), ("unicode/utf8.first", laid_unicode_utf8_first)], narrowed := true }
def UtfJoinsUptoSaid : Prop := utfJoinsUptoRow.holds Tryd.pinned (OpenSpec.upto utfJoinsSpec)

/-- 'strainerlaw01.UtfRound', WHERE WHAT IT READS IS OF BULK AT MOST 1048576: true; the input reads as it did. -/
def utfRoundUptoRow : OpenClaim := { program := "ytpfaojghaggagaadoor", sum := "242130c14802b4dc83bb691f7ee91488e583887c524df0e30c5ca68c2a2cee9f", func := "strainer/strainerlaw01.UtfRound", spec := "utfRound", inPlace := ["internal/abi.NoEscape"], named := ["unicode/utf8.first", "unicode/utf8.acceptRanges"], apart := false, laid := [("unicode/utf8.acceptRanges", laid_unicode_utf8_acceptRanges), ("unicode/utf8.first", laid_unicode_utf8_first)], narrowed := true }
def UtfRoundUptoSaid : Prop := utfRoundUptoRow.holds Tryd.pinned (OpenSpec.upto utfRoundSpec)

/-- 'strainerlaw01.UtfFolds', WHERE WHAT IT READS IS OF BULK AT MOST 1048576: true; the input reads as it did. -/
def utfFoldsUptoRow : OpenClaim := { program := "ytpfaojghaggagaadoor", sum := "242130c14802b4dc83bb691f7ee91488e583887c524df0e30c5ca68c2a2cee9f", func := "strainer/strainerlaw01.UtfFolds", spec := "utfFolds", inPlace := ["internal/abi.NoEscape"], named := ["unicode/utf8.first", "unicode/utf8.acceptRanges"], apart := false, laid := [("unicode/utf8.acceptRanges", laid_unicode_utf8_acceptRanges), ("unicode/utf8.first", laid_unicode_utf8_first)], narrowed := true }
def UtfFoldsUptoSaid : Prop := utfFoldsUptoRow.holds Tryd.pinned (OpenSpec.upto utfFoldsSpec)

/-- 'strainerlaw02.RefsRight', WHERE WHAT IT READS IS OF BULK AT MOST 1048576: true; the input reads as it did. -/
def refsRightUptoRow : OpenClaim := { program := "ytpfaojghaggagaadoor", sum := "242130c14802b4dc83bb691f7ee91488e583887c524df0e30c5ca68c2a2cee9f", func := "strainer/strainerlaw02.RefsRight", spec := "refsRight", inPlace := ["internal/bytealg.IndexByteString", "internal/abi.NoEscape"], named := ["unicode/utf8.first", "unicode/utf8.acceptRanges"], apart := false, laid := [("unicode/utf8.acceptRanges", laid_unicode_utf8_acceptRanges), ("unicode/utf8.first", laid_unicode_utf8_first)], narrowed := true }
def RefsRightUptoSaid : Prop := refsRightUptoRow.holds Tryd.pinned (OpenSpec.upto refsRightSpec)

end Rows
end Go.Proofs.YtpfaojghaggagaaDoor
