/-
  NARROWER THAN 'FOR EVERY INPUT', by the rows' own cells (each row's printed sentence says how): WriteNames: loops · WriteJoins: loops · TokenWrites: loops.
  DERIVED. THE GIVEN ROWS OF THIS SEAT. 12 by the template 'for every input the law returns true; each argument reads behind the call as it read before'; 0 by the template 'total and deterministic' (their statements: YtcmnbgpamdfpfaaTotals.lean).
  GIVEN WITH THE SEED: the statements are not yours to turn. If you find one false, say at which input.
  Laid BY PROGRAM, IN A SANDBOX (cutbox-rows.mjs): the forced cells as the released guide's own fill.sh prints them over the translation a6b901edd0c9a0ba… (all of the seat's roots in one cut). By AI agents, Wed Nov 11 2026. No macro, syntax, notation, axiom, sorry.
-/
import Derived.Test.YtcmnbgpamdfpfaaChecked
import GoSem.Claim
import GoSem.ClaimJoined
import GoSem.ClaimMapViews
import Derived.JoinedTies
import Derived.KernelRfl
namespace Go.Proofs.Ytcmnbgpamdfpfaa
/- THE CELL 'sum', in the pinned program and in every row, IS THE sha256 OF THE DUMP (.gsa) THAT YtcmnbgpamdfpfaaProg.lean LOADS. Nothing in Lean hashes anything: it is a label: what it is worth is what the hold of that sum in a sandbox is worth. -/
noncomputable def Try.pinned : Pinned := { name := "ytcmnbgpamdfpfaa", sum := "a6b901edd0c9a0bab32173918fd167e28fd0a0ec573d4d94df8bc90538a49474", checked := Try.checked }
namespace Rows
def none {H : Type} : Left H := { results := [], args := [] }

/-- 'strainerlaw07.BuildKeeps': WHATEVER THE INPUT: true; the input reads as it did. -/
def buildKeepsSpec : ChangeSpec := { name := "buildKeeps", fn := fun _ => fun
  | [d] => { results := [.lit (.bool true)], args := [d] }
  | _ => none }
def buildKeepsRow : OpenClaim := { program := "ytcmnbgpamdfpfaa", sum := "a6b901edd0c9a0bab32173918fd167e28fd0a0ec573d4d94df8bc90538a49474", func := "strainer/strainerlaw07.BuildKeeps", spec := "buildKeeps", unfollowed := true, recurses := true, apart := false }
def BuildKeepsSaid : Prop := buildKeepsRow.holds Try.pinned (OpenSpec.ofChange buildKeepsSpec)

/-- ITS FALSE NEIGHBOUR: 'it returns false'. Refute it at one input. -/
def buildKeepsWrong : ChangeSpec := { name := "buildKeeps", fn := fun _ => fun
  | [d] => { results := [.lit (.bool false)], args := [d] }
  | _ => none }
def BuildKeepsWrongFalsely : Prop := buildKeepsRow.holds Try.pinned (OpenSpec.ofChange buildKeepsWrong)

/-- 'strainerlaw04.WriteBare': WHATEVER THE INPUT: true; the input reads as it did. -/
def writeBareSpec : ChangeSpec := { name := "writeBare", fn := fun _ => fun
  | [d] => { results := [.lit (.bool true)], args := [d] }
  | _ => none }
def writeBareRow : OpenClaim := { program := "ytcmnbgpamdfpfaa", sum := "a6b901edd0c9a0bab32173918fd167e28fd0a0ec573d4d94df8bc90538a49474", func := "strainer/strainerlaw04.WriteBare", spec := "writeBare", inPlace := ["internal/abi.NoEscape"], unfollowed := true, recurses := true, apart := false }
def WriteBareSaid : Prop := writeBareRow.holds Try.pinned (OpenSpec.ofChange writeBareSpec)

/-- ITS FALSE NEIGHBOUR: 'it returns false'. Refute it at one input. -/
def writeBareWrong : ChangeSpec := { name := "writeBare", fn := fun _ => fun
  | [d] => { results := [.lit (.bool false)], args := [d] }
  | _ => none }
def WriteBareWrongFalsely : Prop := writeBareRow.holds Try.pinned (OpenSpec.ofChange writeBareWrong)

/-- 'strainerlaw04.WriteGrows': WHATEVER THE INPUT: true; the input reads as it did. -/
def writeGrowsSpec : ChangeSpec := { name := "writeGrows", fn := fun _ => fun
  | [d1, d2] => { results := [.lit (.bool true)], args := [d1, d2] }
  | _ => none }
def writeGrowsRow : OpenClaim := { program := "ytcmnbgpamdfpfaa", sum := "a6b901edd0c9a0bab32173918fd167e28fd0a0ec573d4d94df8bc90538a49474", func := "strainer/strainerlaw04.WriteGrows", spec := "writeGrows", inPlace := ["internal/abi.NoEscape"], unfollowed := true, recurses := true, apart := false }
def WriteGrowsSaid : Prop := writeGrowsRow.holds Try.pinned (OpenSpec.ofChange writeGrowsSpec)

/-- ITS FALSE NEIGHBOUR: 'it returns false'. Refute it at one input. -/
def writeGrowsWrong : ChangeSpec := { name := "writeGrows", fn := fun _ => fun
  | [d1, d2] => { results := [.lit (.bool false)], args := [d1, d2] }
  | _ => none }
def WriteGrowsWrongFalsely : Prop := writeGrowsRow.holds Try.pinned (OpenSpec.ofChange writeGrowsWrong)

/-- 'strainerlaw07.BuildShape': WHATEVER THE INPUT: true; the input reads as it did. -/
def buildShapeSpec : ChangeSpec := { name := "buildShape", fn := fun _ => fun
  | [d] => { results := [.lit (.bool true)], args := [d] }
  | _ => none }
def buildShapeRow : OpenClaim := { program := "ytcmnbgpamdfpfaa", sum := "a6b901edd0c9a0bab32173918fd167e28fd0a0ec573d4d94df8bc90538a49474", func := "strainer/strainerlaw07.BuildShape", spec := "buildShape", unfollowed := true, recurses := true, apart := false }
def BuildShapeSaid : Prop := buildShapeRow.holds Try.pinned (OpenSpec.ofChange buildShapeSpec)

/-- ITS FALSE NEIGHBOUR: 'it returns false'. Refute it at one input. -/
def buildShapeWrong : ChangeSpec := { name := "buildShape", fn := fun _ => fun
  | [d] => { results := [.lit (.bool false)], args := [d] }
  | _ => none }
def BuildShapeWrongFalsely : Prop := buildShapeRow.holds Try.pinned (OpenSpec.ofChange buildShapeWrong)

/-- 'strainerlaw07.BuildWraps': WHATEVER THE INPUT: true; the input reads as it did. -/
def buildWrapsSpec : ChangeSpec := { name := "buildWraps", fn := fun _ => fun
  | [d] => { results := [.lit (.bool true)], args := [d] }
  | _ => none }
def buildWrapsRow : OpenClaim := { program := "ytcmnbgpamdfpfaa", sum := "a6b901edd0c9a0bab32173918fd167e28fd0a0ec573d4d94df8bc90538a49474", func := "strainer/strainerlaw07.BuildWraps", spec := "buildWraps", unfollowed := true, recurses := true, apart := false }
def BuildWrapsSaid : Prop := buildWrapsRow.holds Try.pinned (OpenSpec.ofChange buildWrapsSpec)

/-- ITS FALSE NEIGHBOUR: 'it returns false'. Refute it at one input. -/
def buildWrapsWrong : ChangeSpec := { name := "buildWraps", fn := fun _ => fun
  | [d] => { results := [.lit (.bool false)], args := [d] }
  | _ => none }
def BuildWrapsWrongFalsely : Prop := buildWrapsRow.holds Try.pinned (OpenSpec.ofChange buildWrapsWrong)

/-- 'strainerlaw07.BuildWeighs': WHATEVER THE INPUT: true; the input reads as it did. -/
def buildWeighsSpec : ChangeSpec := { name := "buildWeighs", fn := fun _ => fun
  | [d] => { results := [.lit (.bool true)], args := [d] }
  | _ => none }
def buildWeighsRow : OpenClaim := { program := "ytcmnbgpamdfpfaa", sum := "a6b901edd0c9a0bab32173918fd167e28fd0a0ec573d4d94df8bc90538a49474", func := "strainer/strainerlaw07.BuildWeighs", spec := "buildWeighs", unfollowed := true, recurses := true, apart := false }
def BuildWeighsSaid : Prop := buildWeighsRow.holds Try.pinned (OpenSpec.ofChange buildWeighsSpec)

/-- ITS FALSE NEIGHBOUR: 'it returns false'. Refute it at one input. -/
def buildWeighsWrong : ChangeSpec := { name := "buildWeighs", fn := fun _ => fun
  | [d] => { results := [.lit (.bool false)], args := [d] }
  | _ => none }
def BuildWeighsWrongFalsely : Prop := buildWeighsRow.holds Try.pinned (OpenSpec.ofChange buildWeighsWrong)

/-- 'strainerlaw04.WriteNames': WHATEVER THE INPUT: true; the input reads as it did. -/
def writeNamesSpec : ChangeSpec := { name := "writeNames", fn := fun _ => fun
  | [d] => { results := [.lit (.bool true)], args := [d] }
  | _ => none }
def writeNamesRow : OpenClaim := { program := "ytcmnbgpamdfpfaa", sum := "a6b901edd0c9a0bab32173918fd167e28fd0a0ec573d4d94df8bc90538a49474", func := "strainer/strainerlaw04.WriteNames", spec := "writeNames", inPlace := ["internal/abi.NoEscape"], unfollowed := true, recurses := true, loops := true, apart := false }
def WriteNamesSaid : Prop := writeNamesRow.holds Try.pinned (OpenSpec.ofChange writeNamesSpec)

/-- ITS FALSE NEIGHBOUR: 'it returns false'. Refute it at one input. -/
def writeNamesWrong : ChangeSpec := { name := "writeNames", fn := fun _ => fun
  | [d] => { results := [.lit (.bool false)], args := [d] }
  | _ => none }
def WriteNamesWrongFalsely : Prop := writeNamesRow.holds Try.pinned (OpenSpec.ofChange writeNamesWrong)

/-- 'strainerlaw04.WriteJoins': WHATEVER THE INPUT: true; the input reads as it did. -/
def writeJoinsSpec : ChangeSpec := { name := "writeJoins", fn := fun _ => fun
  | [d1, d2] => { results := [.lit (.bool true)], args := [d1, d2] }
  | _ => none }
def writeJoinsRow : OpenClaim := { program := "ytcmnbgpamdfpfaa", sum := "a6b901edd0c9a0bab32173918fd167e28fd0a0ec573d4d94df8bc90538a49474", func := "strainer/strainerlaw04.WriteJoins", spec := "writeJoins", inPlace := ["internal/abi.NoEscape"], unfollowed := true, recurses := true, loops := true, apart := false }
def WriteJoinsSaid : Prop := writeJoinsRow.holds Try.pinned (OpenSpec.ofChange writeJoinsSpec)

/-- ITS FALSE NEIGHBOUR: 'it returns false'. Refute it at one input. -/
def writeJoinsWrong : ChangeSpec := { name := "writeJoins", fn := fun _ => fun
  | [d1, d2] => { results := [.lit (.bool false)], args := [d1, d2] }
  | _ => none }
def WriteJoinsWrongFalsely : Prop := writeJoinsRow.holds Try.pinned (OpenSpec.ofChange writeJoinsWrong)

/-- 'strainerlaw05.TokenWrites': WHATEVER THE INPUT: true; the input reads as it did. -/
def tokenWritesSpec : ChangeSpec := { name := "tokenWrites", fn := fun _ => fun
  | [d] => { results := [.lit (.bool true)], args := [d] }
  | _ => none }
def tokenWritesRow : OpenClaim := { program := "ytcmnbgpamdfpfaa", sum := "a6b901edd0c9a0bab32173918fd167e28fd0a0ec573d4d94df8bc90538a49474", func := "strainer/strainerlaw05.TokenWrites", spec := "tokenWrites", inPlace := ["internal/bytealg.IndexByteString", "internal/bytealg.IndexString", "internal/abi.NoEscape"], unfollowed := true, recurses := true, named := ["internal/bytealg.MaxLen"], loops := true, apart := false }
def TokenWritesSaid : Prop := tokenWritesRow.holds Try.pinned (OpenSpec.ofChange tokenWritesSpec)

/-- ITS FALSE NEIGHBOUR: 'it returns false'. Refute it at one input. -/
def tokenWritesWrong : ChangeSpec := { name := "tokenWrites", fn := fun _ => fun
  | [d] => { results := [.lit (.bool false)], args := [d] }
  | _ => none }
def TokenWritesWrongFalsely : Prop := tokenWritesRow.holds Try.pinned (OpenSpec.ofChange tokenWritesWrong)

/-- 'strainerlaw05.TokenChars': WHATEVER THE INPUT: true; the input reads as it did. -/
def tokenCharsSpec : ChangeSpec := { name := "tokenChars", fn := fun _ => fun
  | [d] => { results := [.lit (.bool true)], args := [d] }
  | _ => none }
def tokenCharsRow : OpenClaim := { program := "ytcmnbgpamdfpfaa", sum := "a6b901edd0c9a0bab32173918fd167e28fd0a0ec573d4d94df8bc90538a49474", func := "strainer/strainerlaw05.TokenChars", spec := "tokenChars", inPlace := ["internal/bytealg.IndexByteString", "internal/bytealg.IndexString", "internal/abi.NoEscape"], unfollowed := true, recurses := true, named := ["internal/bytealg.MaxLen"], apart := false }
def TokenCharsSaid : Prop := tokenCharsRow.holds Try.pinned (OpenSpec.ofChange tokenCharsSpec)

/-- ITS FALSE NEIGHBOUR: 'it returns false'. Refute it at one input. -/
def tokenCharsWrong : ChangeSpec := { name := "tokenChars", fn := fun _ => fun
  | [d] => { results := [.lit (.bool false)], args := [d] }
  | _ => none }
def TokenCharsWrongFalsely : Prop := tokenCharsRow.holds Try.pinned (OpenSpec.ofChange tokenCharsWrong)

/-- 'strainerlaw05.TokenShape': WHATEVER THE INPUT: true; the input reads as it did. -/
def tokenShapeSpec : ChangeSpec := { name := "tokenShape", fn := fun _ => fun
  | [d] => { results := [.lit (.bool true)], args := [d] }
  | _ => none }
def tokenShapeRow : OpenClaim := { program := "ytcmnbgpamdfpfaa", sum := "a6b901edd0c9a0bab32173918fd167e28fd0a0ec573d4d94df8bc90538a49474", func := "strainer/strainerlaw05.TokenShape", spec := "tokenShape", inPlace := ["internal/bytealg.IndexByteString", "internal/bytealg.IndexString", "internal/abi.NoEscape"], unfollowed := true, recurses := true, named := ["internal/bytealg.MaxLen"], apart := false }
def TokenShapeSaid : Prop := tokenShapeRow.holds Try.pinned (OpenSpec.ofChange tokenShapeSpec)

/-- ITS FALSE NEIGHBOUR: 'it returns false'. Refute it at one input. -/
def tokenShapeWrong : ChangeSpec := { name := "tokenShape", fn := fun _ => fun
  | [d] => { results := [.lit (.bool false)], args := [d] }
  | _ => none }
def TokenShapeWrongFalsely : Prop := tokenShapeRow.holds Try.pinned (OpenSpec.ofChange tokenShapeWrong)

/-- 'strainerlaw05.TokenBlanks': WHATEVER THE INPUT: true; the input reads as it did. -/
def tokenBlanksSpec : ChangeSpec := { name := "tokenBlanks", fn := fun _ => fun
  | [d] => { results := [.lit (.bool true)], args := [d] }
  | _ => none }
def tokenBlanksRow : OpenClaim := { program := "ytcmnbgpamdfpfaa", sum := "a6b901edd0c9a0bab32173918fd167e28fd0a0ec573d4d94df8bc90538a49474", func := "strainer/strainerlaw05.TokenBlanks", spec := "tokenBlanks", inPlace := ["internal/bytealg.IndexByteString", "internal/bytealg.IndexString", "internal/abi.NoEscape"], unfollowed := true, recurses := true, named := ["internal/bytealg.MaxLen"], apart := false }
def TokenBlanksSaid : Prop := tokenBlanksRow.holds Try.pinned (OpenSpec.ofChange tokenBlanksSpec)

/-- ITS FALSE NEIGHBOUR: 'it returns false'. Refute it at one input. -/
def tokenBlanksWrong : ChangeSpec := { name := "tokenBlanks", fn := fun _ => fun
  | [d] => { results := [.lit (.bool false)], args := [d] }
  | _ => none }
def TokenBlanksWrongFalsely : Prop := tokenBlanksRow.holds Try.pinned (OpenSpec.ofChange tokenBlanksWrong)

/- THE SECOND FORM. 'bulk': how many values and letters a reading holds, each counted each time it is reached (what is shared counts as often as it is met; a slice's spare places count too). A statement '..UptoSaid' is the law's where the arguments, and the package variables that the reading takes, are together of bulk at most 1048576: NARROWER than '..Said'. Prove '..Said' where nothing that the law and all that it calls make is longer than what came in: it says more and counts as full. Else prove '..UptoSaid'. A law counts once. -/
mutual
def uptoBulk {H : Type} : DataW H → Nat
  | .lit (.string bytes) => bytes.length + 1
  | .lit _ => 1
  | .nil => 1
  | .ptr d => uptoBulk d + 1
  | .slice elems spare => uptoBulkAll elems + uptoBulkAll spare + 1
  | .agg parts => uptoBulkAll parts + 1
  | .iface _ d => uptoBulk d + 1
  | .map entries => uptoBulkEntries entries + 1
  | .held _ => 1
def uptoBulkAll {H : Type} : List (DataW H) → Nat
  | [] => 0
  | d :: r => uptoBulk d + uptoBulkAll r
def uptoBulkEntries {H : Type} : List (Lit × DataW H) → Nat
  | [] => 0
  | x :: r => uptoBulkEntry x + uptoBulkEntries r
def uptoBulkEntry {H : Type} : Lit × DataW H → Nat
  | (.string bytes, d) => bytes.length + uptoBulk d + 1
  | (_, d) => uptoBulk d + 1
 end
def uptoSmall : (H : Type) → List (DataW H) → Bool := fun _ ds => decide (uptoBulkAll ds ≤ 1048576)
def OpenSpec.upto (s : _root_.Go.ChangeSpec) : _root_.Go.OpenSpec := { _root_.Go.OpenSpec.ofChange s with cond := some uptoSmall }

/-- 'strainerlaw07.BuildKeeps', WHERE WHAT IT READS IS OF BULK AT MOST 1048576: true; the input reads as it did. -/
def buildKeepsUptoRow : OpenClaim := { program := "ytcmnbgpamdfpfaa", sum := "a6b901edd0c9a0bab32173918fd167e28fd0a0ec573d4d94df8bc90538a49474", func := "strainer/strainerlaw07.BuildKeeps", spec := "buildKeeps", unfollowed := true, recurses := true, apart := false, narrowed := true }
def BuildKeepsUptoSaid : Prop := buildKeepsUptoRow.holds Try.pinned (OpenSpec.upto buildKeepsSpec)

/-- 'strainerlaw04.WriteBare', WHERE WHAT IT READS IS OF BULK AT MOST 1048576: true; the input reads as it did. -/
def writeBareUptoRow : OpenClaim := { program := "ytcmnbgpamdfpfaa", sum := "a6b901edd0c9a0bab32173918fd167e28fd0a0ec573d4d94df8bc90538a49474", func := "strainer/strainerlaw04.WriteBare", spec := "writeBare", inPlace := ["internal/abi.NoEscape"], unfollowed := true, recurses := true, apart := false, narrowed := true }
def WriteBareUptoSaid : Prop := writeBareUptoRow.holds Try.pinned (OpenSpec.upto writeBareSpec)

/-- 'strainerlaw04.WriteGrows', WHERE WHAT IT READS IS OF BULK AT MOST 1048576: true; the input reads as it did. -/
def writeGrowsUptoRow : OpenClaim := { program := "ytcmnbgpamdfpfaa", sum := "a6b901edd0c9a0bab32173918fd167e28fd0a0ec573d4d94df8bc90538a49474", func := "strainer/strainerlaw04.WriteGrows", spec := "writeGrows", inPlace := ["internal/abi.NoEscape"], unfollowed := true, recurses := true, apart := false, narrowed := true }
def WriteGrowsUptoSaid : Prop := writeGrowsUptoRow.holds Try.pinned (OpenSpec.upto writeGrowsSpec)

/-- 'strainerlaw07.BuildShape', WHERE WHAT IT READS IS OF BULK AT MOST 1048576: true; the input reads as it did. -/
def buildShapeUptoRow : OpenClaim := { program := "ytcmnbgpamdfpfaa", sum := "a6b901edd0c9a0bab32173918fd167e28fd0a0ec573d4d94df8bc90538a49474", func := "strainer/strainerlaw07.BuildShape", spec := "buildShape", unfollowed := true, recurses := true, apart := false, narrowed := true }
def BuildShapeUptoSaid : Prop := buildShapeUptoRow.holds Try.pinned (OpenSpec.upto buildShapeSpec)

/-- 'strainerlaw07.BuildWraps', WHERE WHAT IT READS IS OF BULK AT MOST 1048576: true; the input reads as it did. -/
def buildWrapsUptoRow : OpenClaim := { program := "ytcmnbgpamdfpfaa", sum := "a6b901edd0c9a0bab32173918fd167e28fd0a0ec573d4d94df8bc90538a49474", func := "strainer/strainerlaw07.BuildWraps", spec := "buildWraps", unfollowed := true, recurses := true, apart := false, narrowed := true }
def BuildWrapsUptoSaid : Prop := buildWrapsUptoRow.holds Try.pinned (OpenSpec.upto buildWrapsSpec)

/-- 'strainerlaw07.BuildWeighs', WHERE WHAT IT READS IS OF BULK AT MOST 1048576: true; the input reads as it did. -/
def buildWeighsUptoRow : OpenClaim := { program := "ytcmnbgpamdfpfaa", sum := "a6b901edd0c9a0bab32173918fd167e28fd0a0ec573d4d94df8bc90538a49474", func := "strainer/strainerlaw07.BuildWeighs", spec := "buildWeighs", unfollowed := true, recurses := true, apart := false, narrowed := true }
def BuildWeighsUptoSaid : Prop := buildWeighsUptoRow.holds Try.pinned (OpenSpec.upto buildWeighsSpec)

/-- 'strainerlaw04.WriteNames', WHERE WHAT IT READS IS OF BULK AT MOST 1048576: true; the input reads as it did. -/
def writeNamesUptoRow : OpenClaim := { program := "ytcmnbgpamdfpfaa", sum := "a6b901edd0c9a0bab32173918fd167e28fd0a0ec573d4d94df8bc90538a49474", func := "strainer/strainerlaw04.WriteNames", spec := "writeNames", inPlace := ["internal/abi.NoEscape"], unfollowed := true, recurses := true, loops := true, apart := false, narrowed := true }
def WriteNamesUptoSaid : Prop := writeNamesUptoRow.holds Try.pinned (OpenSpec.upto writeNamesSpec)

/-- 'strainerlaw04.WriteJoins', WHERE WHAT IT READS IS OF BULK AT MOST 1048576: true; the input reads as it did. -/
def writeJoinsUptoRow : OpenClaim := { program := "ytcmnbgpamdfpfaa", sum := "a6b901edd0c9a0bab32173918fd167e28fd0a0ec573d4d94df8bc90538a49474", func := "strainer/strainerlaw04.WriteJoins", spec := "writeJoins", inPlace := ["internal/abi.NoEscape"], unfollowed := true, recurses := true, loops := true, apart := false, narrowed := true }
def WriteJoinsUptoSaid : Prop := writeJoinsUptoRow.holds Try.pinned (OpenSpec.upto writeJoinsSpec)

/-- 'strainerlaw05.TokenWrites', WHERE WHAT IT READS IS OF BULK AT MOST 1048576: true; the input reads as it did. -/
def tokenWritesUptoRow : OpenClaim := { program := "ytcmnbgpamdfpfaa", sum := "a6b901edd0c9a0bab32173918fd167e28fd0a0ec573d4d94df8bc90538a49474", func := "strainer/strainerlaw05.TokenWrites", spec := "tokenWrites", inPlace := ["internal/bytealg.IndexByteString", "internal/bytealg.IndexString", "internal/abi.NoEscape"], unfollowed := true, recurses := true, named := ["internal/bytealg.MaxLen"], loops := true, apart := false, narrowed := true }
def TokenWritesUptoSaid : Prop := tokenWritesUptoRow.holds Try.pinned (OpenSpec.upto tokenWritesSpec)

/-- 'strainerlaw05.TokenChars', WHERE WHAT IT READS IS OF BULK AT MOST 1048576: true; the input reads as it did. -/
def tokenCharsUptoRow : OpenClaim := { program := "ytcmnbgpamdfpfaa", sum := "a6b901edd0c9a0bab32173918fd167e28fd0a0ec573d4d94df8bc90538a49474", func := "strainer/strainerlaw05.TokenChars", spec := "tokenChars", inPlace := ["internal/bytealg.IndexByteString", "internal/bytealg.IndexString", "internal/abi.NoEscape"], unfollowed := true, recurses := true, named := ["internal/bytealg.MaxLen"], apart := false, narrowed := true }
def TokenCharsUptoSaid : Prop := tokenCharsUptoRow.holds Try.pinned (OpenSpec.upto tokenCharsSpec)

/-- 'strainerlaw05.TokenShape', WHERE WHAT IT READS IS OF BULK AT MOST 1048576: true; the input reads as it did. -/
def tokenShapeUptoRow : OpenClaim := { program := "ytcmnbgpamdfpfaa", sum := "a6b901edd0c9a0bab32173918fd167e28fd0a0ec573d4d94df8bc90538a49474", func := "strainer/strainerlaw05.TokenShape", spec := "tokenShape", inPlace := ["internal/bytealg.IndexByteString", "internal/bytealg.IndexString", "internal/abi.NoEscape"], unfollowed := true, recurses := true, named := ["internal/bytealg.MaxLen"], apart := false, narrowed := true }
def TokenShapeUptoSaid : Prop := tokenShapeUptoRow.holds Try.pinned (OpenSpec.upto tokenShapeSpec)

/-- 'strainerlaw05.TokenBlanks', WHERE WHAT IT READS IS OF BULK AT MOST 1048576: true; the input reads as it did. -/
def tokenBlanksUptoRow : OpenClaim := { program := "ytcmnbgpamdfpfaa", sum := "a6b901edd0c9a0bab32173918fd167e28fd0a0ec573d4d94df8bc90538a49474", func := "strainer/strainerlaw05.TokenBlanks", spec := "tokenBlanks", inPlace := ["internal/bytealg.IndexByteString", "internal/bytealg.IndexString", "internal/abi.NoEscape"], unfollowed := true, recurses := true, named := ["internal/bytealg.MaxLen"], apart := false, narrowed := true }
def TokenBlanksUptoSaid : Prop := tokenBlanksUptoRow.holds Try.pinned (OpenSpec.upto tokenBlanksSpec)

end Rows
end Go.Proofs.Ytcmnbgpamdfpfaa
