/-
  NARROWER THAN 'FOR EVERY INPUT', by the rows' own cells (each row's printed sentence says how): WriteNames: loops · WriteJoins: loops.
  DERIVED. THE GIVEN ROWS OF THIS SEAT. 3 by the template 'for every input the law returns true; each argument reads behind the call as it read before'; 0 by the template 'total and deterministic' (their statements: YtjobaciajfoneaaTotals.lean).
  GIVEN WITH THE SEED: the statements are not yours to turn. If you find one false, say at which input.
  Laid BY PROGRAM, IN A SANDBOX (cutbox-rows.mjs): the forced cells as the released guide's own fill.sh prints them over the translation 99cfeb460b6f0b80… (all of the seat's roots in one cut). By AI agents, Wed Nov 11 2026. No macro, syntax, notation, axiom, sorry.
-/
import Derived.Test.YtjobaciajfoneaaChecked
import GoSem.Claim
import GoSem.ClaimJoined
import GoSem.ClaimMapViews
import Derived.JoinedTies
import Derived.KernelRfl
namespace Go.Proofs.Ytjobaciajfoneaa
/- THE CELL 'sum', in the pinned program and in every row, IS THE sha256 OF THE DUMP (.gsa) THAT YtjobaciajfoneaaProg.lean LOADS. Nothing in Lean hashes anything: it is a label: what it is worth is what the hold of that sum in a sandbox is worth. -/
noncomputable def Try.pinned : Pinned := { name := "ytjobaciajfoneaa", sum := "99cfeb460b6f0b804f9f2ef9cba8c52cdaee365f49634fb5561d7c9f1370eebe", checked := Try.checked }
namespace Rows
def none {H : Type} : Left H := { results := [], args := [] }

/-- 'strainerlaw04.WriteBare': WHATEVER THE INPUT: true; the input reads as it did. -/
def writeBareSpec : ChangeSpec := { name := "writeBare", fn := fun _ => fun
  | [d] => { results := [.lit (.bool true)], args := [d] }
  | _ => none }
def writeBareRow : OpenClaim := { program := "ytjobaciajfoneaa", sum := "99cfeb460b6f0b804f9f2ef9cba8c52cdaee365f49634fb5561d7c9f1370eebe", func := "strainer/strainerlaw04.WriteBare", spec := "writeBare", inPlace := ["internal/abi.NoEscape"], unfollowed := true, recurses := true, apart := false }
def WriteBareSaid : Prop := writeBareRow.holds Try.pinned (OpenSpec.ofChange writeBareSpec)

/-- ITS FALSE NEIGHBOUR: 'it returns false'. Refute it at one input. -/
def writeBareWrong : ChangeSpec := { name := "writeBare", fn := fun _ => fun
  | [d] => { results := [.lit (.bool false)], args := [d] }
  | _ => none }
def WriteBareWrongFalsely : Prop := writeBareRow.holds Try.pinned (OpenSpec.ofChange writeBareWrong)

/-- 'strainerlaw04.WriteNames': WHATEVER THE INPUT: true; the input reads as it did. -/
def writeNamesSpec : ChangeSpec := { name := "writeNames", fn := fun _ => fun
  | [d] => { results := [.lit (.bool true)], args := [d] }
  | _ => none }
def writeNamesRow : OpenClaim := { program := "ytjobaciajfoneaa", sum := "99cfeb460b6f0b804f9f2ef9cba8c52cdaee365f49634fb5561d7c9f1370eebe", func := "strainer/strainerlaw04.WriteNames", spec := "writeNames", inPlace := ["internal/abi.NoEscape"], unfollowed := true, recurses := true, loops := true, apart := false }
def WriteNamesSaid : Prop := writeNamesRow.holds Try.pinned (OpenSpec.ofChange writeNamesSpec)

/-- ITS FALSE NEIGHBOUR: 'it returns false'. Refute it at one input. -/
def writeNamesWrong : ChangeSpec := { name := "writeNames", fn := fun _ => fun
  | [d] => { results := [.lit (.bool false)], args := [d] }
  | _ => none }
def WriteNamesWrongFalsely : Prop := writeNamesRow.holds Try.pinned (OpenSpec.ofChange writeNamesWrong)

/-- 'strainerlaw04.WriteJoins': WHATEVER THE INPUT: true; the input reads as it did. -/
def writeJoinsSpec : ChangeSpec := { name := "writeJoins", fn := fun _ => fun
  | [d1, d2] => { results := [.lit (.bool true)], args := [d1, d2] }
  | _ => none }
def writeJoinsRow : OpenClaim := { program := "ytjobaciajfoneaa", sum := "99cfeb460b6f0b804f9f2ef9cba8c52cdaee365f49634fb5561d7c9f1370eebe", func := "strainer/strainerlaw04.WriteJoins", spec := "writeJoins", inPlace := ["internal/abi.NoEscape"], unfollowed := true, recurses := true, loops := true, apart := false }
def WriteJoinsSaid : Prop := writeJoinsRow.holds Try.pinned (OpenSpec.ofChange writeJoinsSpec)

/-- ITS FALSE NEIGHBOUR: 'it returns false'. Refute it at one input. -/
def writeJoinsWrong : ChangeSpec := { name := "writeJoins", fn := fun _ => fun
  | [d1, d2] => { results := [.lit (.bool false)], args := [d1, d2] }
  | _ => none }
def WriteJoinsWrongFalsely : Prop := writeJoinsRow.holds Try.pinned (OpenSpec.ofChange writeJoinsWrong)

/- THE SECOND FORM. 'bulk': how many values and letters a reading holds, each counted each time it is reached (what is shared counts as often as it is met; a slice's spare places count too). A statement '..UptoSaid' is the law's where the arguments, and the package variables that the reading takes, are together of bulk at most 1048576: NARROWER than '..Said'. Prove '..Said' where nothing that the law and all that it calls make is longer than what came in: it says more and counts as full. Else prove '..UptoSaid'. A law counts once. -/
mutual
def uptoBulk {H : Type} : DataW H → Nat
  | .lit (.string bytes) => bytes.length + 1
  | .lit _ => 1
  | .nil => 1
  | .ptr d => uptoBulk d + 1
  | .slice elems spare => uptoBulkAll elems + uptoBulkAll spare + 1
  | .agg parts => uptoBulkAll parts + 1
  | .iface _ d => uptoBulk d + 1
  | .map entries => uptoBulkEntries entries + 1
  | .held _ => 1
def uptoBulkAll {H : Type} : List (DataW H) → Nat
  | [] => 0
  | d :: r => uptoBulk d + uptoBulkAll r
def uptoBulkEntries {H : Type} : List (Lit × DataW H) → Nat
  | [] => 0
  | x :: r => uptoBulkEntry x + uptoBulkEntries r
def uptoBulkEntry {H : Type} : Lit × DataW H → Nat
  | (.string bytes, d) => bytes.length + uptoBulk d + 1
  | (_, d) => uptoBulk d + 1
 end
def uptoSmall : (H : Type) → List (DataW H) → Bool := fun _ ds => decide (uptoBulkAll ds ≤ 1048576)
def OpenSpec.upto (s : _root_.Go.ChangeSpec) : _root_.Go.OpenSpec := { _root_.Go.OpenSpec.ofChange s with cond := some uptoSmall }

/-- 'strainerlaw04.WriteBare', WHERE WHAT IT READS IS OF BULK AT MOST 1048576: true; the input reads as it did. -/
def writeBareUptoRow : OpenClaim := { program := "ytjobaciajfoneaa", sum := "99cfeb460b6f0b804f9f2ef9cba8c52cdaee365f49634fb5561d7c9f1370eebe", func := "strainer/strainerlaw04.WriteBare", spec := "writeBare", inPlace := ["internal/abi.NoEscape"], unfollowed := true, recurses := true, apart := false, narrowed := true }
def WriteBareUptoSaid : Prop := writeBareUptoRow.holds Try.pinned (OpenSpec.upto writeBareSpec)

/-- 'strainerlaw04.WriteNames', WHERE WHAT IT READS IS OF BULK AT MOST 1048576: true; the input reads as it did. -/
def writeNamesUptoRow : OpenClaim := { program := "ytjobaciajfoneaa", sum := "99cfeb460b6f0b804f9f2ef9cba8c52cdaee365f49634fb5561d7c9f1370eebe", func := "strainer/strainerlaw04.WriteNames", spec := "writeNames", inPlace := ["internal/abi.NoEscape"], unfollowed := true, recurses := true, loops := true, apart := false, narrowed := true }
def WriteNamesUptoSaid : Prop := writeNamesUptoRow.holds Try.pinned (OpenSpec.upto writeNamesSpec)

/-- 'strainerlaw04.WriteJoins', WHERE WHAT IT READS IS OF BULK AT MOST 1048576: true; the input reads as it did. -/
def writeJoinsUptoRow : OpenClaim := { program := "ytjobaciajfoneaa", sum := "99cfeb460b6f0b804f9f2ef9cba8c52cdaee365f49634fb5561d7c9f1370eebe", func := "strainer/strainerlaw04.WriteJoins", spec := "writeJoins", inPlace := ["internal/abi.NoEscape"], unfollowed := true, recurses := true, loops := true, apart := false, narrowed := true }
def WriteJoinsUptoSaid : Prop := writeJoinsUptoRow.holds Try.pinned (OpenSpec.upto writeJoinsSpec)

end Rows
end Go.Proofs.Ytjobaciajfoneaa
