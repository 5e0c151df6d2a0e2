/-
  NARROWER THAN 'FOR EVERY INPUT', by the rows' own cells (each row's printed sentence says how): TokenWrites: loops.
  DERIVED. THE GIVEN ROWS OF THIS SEAT. 4 by the template 'for every input the law returns true; each argument reads behind the call as it read before'; 0 by the template 'total and deterministic' (their statements: YtninjljkdbemkaaTotals.lean).
  GIVEN WITH THE SEED: the statements are not yours to turn. If you find one false, say at which input.
  Laid BY PROGRAM, IN A SANDBOX (cutbox-rows.mjs): the forced cells as the released guide's own fill.sh prints them over the translation 48387a1f1ef4d517… (all of the seat's roots in one cut). By AI agents, Wed Nov 11 2026. No macro, syntax, notation, axiom, sorry.
-/
import Derived.Test.YtninjljkdbemkaaChecked
import GoSem.Claim
import GoSem.ClaimJoined
import GoSem.ClaimMapViews
import Derived.JoinedTies
import Derived.KernelRfl
namespace Go.Proofs.Ytninjljkdbemkaa
/- THE CELL 'sum', in the pinned program and in every row, IS THE sha256 OF THE DUMP (.gsa) THAT YtninjljkdbemkaaProg.lean LOADS. Nothing in Lean hashes anything: it is a label: what it is worth is what the hold of that sum in a sandbox is worth. -/
noncomputable def Try.pinned : Pinned := { name := "ytninjljkdbemkaa", sum := "48387a1f1ef4d517d7b0b299a8e43a3de6adec0bbcce7548779547c52914d87d", checked := Try.checked }
namespace Rows
def none {H : Type} : Left H := { results := [], args := [] }

/-- 'strainerlaw05.TokenWrites': WHATEVER THE INPUT: true; the input reads as it did. -/
def tokenWritesSpec : ChangeSpec := { name := "tokenWrites", fn := fun _ => fun
  | [d] => { results := [.lit (.bool true)], args := [d] }
  | _ => none }
def tokenWritesRow : OpenClaim := { program := "ytninjljkdbemkaa", sum := "48387a1f1ef4d517d7b0b299a8e43a3de6adec0bbcce7548779547c52914d87d", func := "strainer/strainerlaw05.TokenWrites", spec := "tokenWrites", inPlace := ["internal/bytealg.IndexByteString", "internal/bytealg.IndexString", "internal/abi.NoEscape"], unfollowed := true, recurses := true, named := ["internal/bytealg.MaxLen"], loops := true, apart := false }
def TokenWritesSaid : Prop := tokenWritesRow.holds Try.pinned (OpenSpec.ofChange tokenWritesSpec)

/-- ITS FALSE NEIGHBOUR: 'it returns false'. Refute it at one input. -/
def tokenWritesWrong : ChangeSpec := { name := "tokenWrites", fn := fun _ => fun
  | [d] => { results := [.lit (.bool false)], args := [d] }
  | _ => none }
def TokenWritesWrongFalsely : Prop := tokenWritesRow.holds Try.pinned (OpenSpec.ofChange tokenWritesWrong)

/-- 'strainerlaw05.TokenChars': WHATEVER THE INPUT: true; the input reads as it did. -/
def tokenCharsSpec : ChangeSpec := { name := "tokenChars", fn := fun _ => fun
  | [d] => { results := [.lit (.bool true)], args := [d] }
  | _ => none }
def tokenCharsRow : OpenClaim := { program := "ytninjljkdbemkaa", sum := "48387a1f1ef4d517d7b0b299a8e43a3de6adec0bbcce7548779547c52914d87d", func := "strainer/strainerlaw05.TokenChars", spec := "tokenChars", inPlace := ["internal/bytealg.IndexByteString", "internal/bytealg.IndexString", "internal/abi.NoEscape"], unfollowed := true, recurses := true, named := ["internal/bytealg.MaxLen"], apart := false }
def TokenCharsSaid : Prop := tokenCharsRow.holds Try.pinned (OpenSpec.ofChange tokenCharsSpec)

/-- ITS FALSE NEIGHBOUR: 'it returns false'. Refute it at one input. -/
def tokenCharsWrong : ChangeSpec := { name := "tokenChars", fn := fun _ => fun
  | [d] => { results := [.lit (.bool false)], args := [d] }
  | _ => none }
def TokenCharsWrongFalsely : Prop := tokenCharsRow.holds Try.pinned (OpenSpec.ofChange tokenCharsWrong)

/-- 'strainerlaw05.TokenShape': WHATEVER THE INPUT: true; the input reads as it did. -/
def tokenShapeSpec : ChangeSpec := { name := "tokenShape", fn := fun _ => fun
  | [d] => { results := [.lit (.bool true)], args := [d] }
  | _ => none }
def tokenShapeRow : OpenClaim := { program := "ytninjljkdbemkaa", sum := "48387a1f1ef4d517d7b0b299a8e43a3de6adec0bbcce7548779547c52914d87d", func := "strainer/strainerlaw05.TokenShape", spec := "tokenShape", inPlace := ["internal/bytealg.IndexByteString", "internal/bytealg.IndexString", "internal/abi.NoEscape"], unfollowed := true, recurses := true, named := ["internal/bytealg.MaxLen"], apart := false }
def TokenShapeSaid : Prop := tokenShapeRow.holds Try.pinned (OpenSpec.ofChange tokenShapeSpec)

/-- ITS FALSE NEIGHBOUR: 'it returns false'. Refute it at one input. -/
def tokenShapeWrong : ChangeSpec := { name := "tokenShape", fn := fun _ => fun
  | [d] => { results := [.lit (.bool false)], args := [d] }
  | _ => none }
def TokenShapeWrongFalsely : Prop := tokenShapeRow.holds Try.pinned (OpenSpec.ofChange tokenShapeWrong)

/-- 'strainerlaw05.TokenBlanks': WHATEVER THE INPUT: true; the input reads as it did. -/
def tokenBlanksSpec : ChangeSpec := { name := "tokenBlanks", fn := fun _ => fun
  | [d] => { results := [.lit (.bool true)], args := [d] }
  | _ => none }
def tokenBlanksRow : OpenClaim := { program := "ytninjljkdbemkaa", sum := "48387a1f1ef4d517d7b0b299a8e43a3de6adec0bbcce7548779547c52914d87d", func := "strainer/strainerlaw05.TokenBlanks", spec := "tokenBlanks", inPlace := ["internal/bytealg.IndexByteString", "internal/bytealg.IndexString", "internal/abi.NoEscape"], unfollowed := true, recurses := true, named := ["internal/bytealg.MaxLen"], apart := false }
def TokenBlanksSaid : Prop := tokenBlanksRow.holds Try.pinned (OpenSpec.ofChange tokenBlanksSpec)

/-- ITS FALSE NEIGHBOUR: 'it returns false'. Refute it at one input. -/
def tokenBlanksWrong : ChangeSpec := { name := "tokenBlanks", fn := fun _ => fun
  | [d] => { results := [.lit (.bool false)], args := [d] }
  | _ => none }
def TokenBlanksWrongFalsely : Prop := tokenBlanksRow.holds Try.pinned (OpenSpec.ofChange tokenBlanksWrong)

/- THE SECOND FORM. 'bulk': how many values and letters a reading holds, each counted each time it is reached (what is shared counts as often as it is met; a slice's spare places count too). A statement '..UptoSaid' is the law's where the arguments, and the package variables that the reading takes, are together of bulk at most 1048576: NARROWER than '..Said'. Prove '..Said' where nothing that the law and all that it calls make is longer than what came in: it says more and counts as full. Else prove '..UptoSaid'. A law counts once. -/
mutual
def uptoBulk {H : Type} : DataW H → Nat
  | .lit (.string bytes) => bytes.length + 1
  | .lit _ => 1
  | .nil => 1
  | .ptr d => uptoBulk d + 1
  | .slice elems spare => uptoBulkAll elems + uptoBulkAll spare + 1
  | .agg parts => uptoBulkAll parts + 1
  | .iface _ d => uptoBulk d + 1
  | .map entries => uptoBulkEntries entries + 1
  | .held _ => 1
def uptoBulkAll {H : Type} : List (DataW H) → Nat
  | [] => 0
  | d :: r => uptoBulk d + uptoBulkAll r
def uptoBulkEntries {H : Type} : List (Lit × DataW H) → Nat
  | [] => 0
  | x :: r => uptoBulkEntry x + uptoBulkEntries r
def uptoBulkEntry {H : Type} : Lit × DataW H → Nat
  | (.string bytes, d) => bytes.length + uptoBulk d + 1
  | (_, d) => uptoBulk d + 1
 end
def uptoSmall : (H : Type) → List (DataW H) → Bool := fun _ ds => decide (uptoBulkAll ds ≤ 1048576)
def OpenSpec.upto (s : _root_.Go.ChangeSpec) : _root_.Go.OpenSpec := { _root_.Go.OpenSpec.ofChange s with cond := some uptoSmall }

/-- 'strainerlaw05.TokenWrites', WHERE WHAT IT READS IS OF BULK AT MOST 1048576: true; the input reads as it did. -/
def tokenWritesUptoRow : OpenClaim := { program := "ytninjljkdbemkaa", sum := "48387a1f1ef4d517d7b0b299a8e43a3de6adec0bbcce7548779547c52914d87d", func := "strainer/strainerlaw05.TokenWrites", spec := "tokenWrites", inPlace := ["internal/bytealg.IndexByteString", "internal/bytealg.IndexString", "internal/abi.NoEscape"], unfollowed := true, recurses := true, named := ["internal/bytealg.MaxLen"], loops := true, apart := false, narrowed := true }
def TokenWritesUptoSaid : Prop := tokenWritesUptoRow.holds Try.pinned (OpenSpec.upto tokenWritesSpec)

/-- 'strainerlaw05.TokenChars', WHERE WHAT IT READS IS OF BULK AT MOST 1048576: true; the input reads as it did. -/
def tokenCharsUptoRow : OpenClaim := { program := "ytninjljkdbemkaa", sum := "48387a1f1ef4d517d7b0b299a8e43a3de6adec0bbcce7548779547c52914d87d", func := "strainer/strainerlaw05.TokenChars", spec := "tokenChars", inPlace := ["internal/bytealg.IndexByteString", "internal/bytealg.IndexString", "internal/abi.NoEscape"], unfollowed := true, recurses := true, named := ["internal/bytealg.MaxLen"], apart := false, narrowed := true }
def TokenCharsUptoSaid : Prop := tokenCharsUptoRow.holds Try.pinned (OpenSpec.upto tokenCharsSpec)

/-- 'strainerlaw05.TokenShape', WHERE WHAT IT READS IS OF BULK AT MOST 1048576: true; the input reads as it did. -/
def tokenShapeUptoRow : OpenClaim := { program := "ytninjljkdbemkaa", sum := "48387a1f1ef4d517d7b0b299a8e43a3de6adec0bbcce7548779547c52914d87d", func := "strainer/strainerlaw05.TokenShape", spec := "tokenShape", inPlace := ["internal/bytealg.IndexByteString", "internal/bytealg.IndexString", "internal/abi.NoEscape"], unfollowed := true, recurses := true, named := ["internal/bytealg.MaxLen"], apart := false, narrowed := true }
def TokenShapeUptoSaid : Prop := tokenShapeUptoRow.holds Try.pinned (OpenSpec.upto tokenShapeSpec)

/-- 'strainerlaw05.TokenBlanks', WHERE WHAT IT READS IS OF BULK AT MOST 1048576: true; the input reads as it did. -/
def tokenBlanksUptoRow : OpenClaim := { program := "ytninjljkdbemkaa", sum := "48387a1f1ef4d517d7b0b299a8e43a3de6adec0bbcce7548779547c52914d87d", func := "strainer/strainerlaw05.TokenBlanks", spec := "tokenBlanks", inPlace := ["internal/bytealg.IndexByteString", "internal/bytealg.IndexString", "internal/abi.NoEscape"], unfollowed := true, recurses := true, named := ["internal/bytealg.MaxLen"], apart := false, narrowed := true }
def TokenBlanksUptoSaid : Prop := tokenBlanksUptoRow.holds Try.pinned (OpenSpec.upto tokenBlanksSpec)

end Rows
end Go.Proofs.Ytninjljkdbemkaa
