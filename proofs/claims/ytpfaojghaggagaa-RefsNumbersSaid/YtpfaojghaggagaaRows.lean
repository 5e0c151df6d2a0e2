/-
  No cell of these rows narrows 'for every input' (looked for: loops, veiled, ifaces, maps, wideKeys, modest, calm, conditions, laid).
  DERIVED. THE GIVEN ROWS OF THIS SEAT. 4 by the template 'for every input the law returns true; each argument reads behind the call as it read before'; 0 by the template 'total and deterministic' (their statements: YtpfaojghaggagaaTotals.lean).
  GIVEN WITH THE SEED: the statements are not yours to turn. If you find one false, say at which input.
  Laid BY PROGRAM, IN A SANDBOX (cutbox-rows.mjs): the forced cells as the released guide's own fill.sh prints them over the translation d42dbc8a387eb773… (all of the seat's roots in one cut). By AI agents, Wed Nov 11 2026. No macro, syntax, notation, axiom, sorry.
-/
import Derived.Test.YtpfaojghaggagaaChecked
import GoSem.Claim
import GoSem.ClaimJoined
import GoSem.ClaimMapViews
import Derived.JoinedTies
import Derived.KernelRfl
namespace Go.Proofs.Ytpfaojghaggagaa
/- THE CELL 'sum', in the pinned program and in every row, IS THE sha256 OF THE DUMP (.gsa) THAT YtpfaojghaggagaaProg.lean LOADS. Nothing in Lean hashes anything: it is a label: what it is worth is what the hold of that sum in a sandbox is worth. -/
noncomputable def Try.pinned : Pinned := { name := "ytpfaojghaggagaa", sum := "d42dbc8a387eb7733d8151bd134514cc38b217c1690b7817b2451c2a1019ba11", checked := Try.checked }
namespace Rows
def none {H : Type} : Left H := { results := [], args := [] }

/-- 'strainerlaw02.RefsWrites': WHATEVER THE INPUT: true; the input reads as it did. -/
def refsWritesSpec : ChangeSpec := { name := "refsWrites", fn := fun _ => fun
  | [d1, d2] => { results := [.lit (.bool true)], args := [d1, d2] }
  | _ => none }
def refsWritesRow : OpenClaim := { program := "ytpfaojghaggagaa", sum := "d42dbc8a387eb7733d8151bd134514cc38b217c1690b7817b2451c2a1019ba11", func := "strainer/strainerlaw02.RefsWrites", spec := "refsWrites", inPlace := ["internal/abi.NoEscape", "internal/bytealg.IndexByteString"], apart := false }
def RefsWritesSaid : Prop := refsWritesRow.holds Try.pinned (OpenSpec.ofChange refsWritesSpec)

/-- ITS FALSE NEIGHBOUR: 'it returns false'. Refute it at one input. -/
def refsWritesWrong : ChangeSpec := { name := "refsWrites", fn := fun _ => fun
  | [d1, d2] => { results := [.lit (.bool false)], args := [d1, d2] }
  | _ => none }
def RefsWritesWrongFalsely : Prop := refsWritesRow.holds Try.pinned (OpenSpec.ofChange refsWritesWrong)

/-- 'strainerlaw02.RefsPlain': WHATEVER THE INPUT: true; the input reads as it did. -/
def refsPlainSpec : ChangeSpec := { name := "refsPlain", fn := fun _ => fun
  | [d] => { results := [.lit (.bool true)], args := [d] }
  | _ => none }
def refsPlainRow : OpenClaim := { program := "ytpfaojghaggagaa", sum := "d42dbc8a387eb7733d8151bd134514cc38b217c1690b7817b2451c2a1019ba11", func := "strainer/strainerlaw02.RefsPlain", spec := "refsPlain", inPlace := ["internal/abi.NoEscape", "internal/bytealg.IndexByteString"], apart := false }
def RefsPlainSaid : Prop := refsPlainRow.holds Try.pinned (OpenSpec.ofChange refsPlainSpec)

/-- ITS FALSE NEIGHBOUR: 'it returns false'. Refute it at one input. -/
def refsPlainWrong : ChangeSpec := { name := "refsPlain", fn := fun _ => fun
  | [d] => { results := [.lit (.bool false)], args := [d] }
  | _ => none }
def RefsPlainWrongFalsely : Prop := refsPlainRow.holds Try.pinned (OpenSpec.ofChange refsPlainWrong)

/-- 'strainerlaw02.RefsJoins': WHATEVER THE INPUT: true; the input reads as it did. -/
def refsJoinsSpec : ChangeSpec := { name := "refsJoins", fn := fun _ => fun
  | [d1, d2, d3] => { results := [.lit (.bool true)], args := [d1, d2, d3] }
  | _ => none }
def refsJoinsRow : OpenClaim := { program := "ytpfaojghaggagaa", sum := "d42dbc8a387eb7733d8151bd134514cc38b217c1690b7817b2451c2a1019ba11", func := "strainer/strainerlaw02.RefsJoins", spec := "refsJoins", inPlace := ["internal/abi.NoEscape", "internal/bytealg.IndexByteString"], apart := false }
def RefsJoinsSaid : Prop := refsJoinsRow.holds Try.pinned (OpenSpec.ofChange refsJoinsSpec)

/-- ITS FALSE NEIGHBOUR: 'it returns false'. Refute it at one input. -/
def refsJoinsWrong : ChangeSpec := { name := "refsJoins", fn := fun _ => fun
  | [d1, d2, d3] => { results := [.lit (.bool false)], args := [d1, d2, d3] }
  | _ => none }
def RefsJoinsWrongFalsely : Prop := refsJoinsRow.holds Try.pinned (OpenSpec.ofChange refsJoinsWrong)

/-- 'strainerlaw02.RefsNumbers': WHATEVER THE INPUT: true; the input reads as it did. -/
def refsNumbersSpec : ChangeSpec := { name := "refsNumbers", fn := fun _ => fun
  | [d] => { results := [.lit (.bool true)], args := [d] }
  | _ => none }
def refsNumbersRow : OpenClaim := { program := "ytpfaojghaggagaa", sum := "d42dbc8a387eb7733d8151bd134514cc38b217c1690b7817b2451c2a1019ba11", func := "strainer/strainerlaw02.RefsNumbers", spec := "refsNumbers", inPlace := ["internal/bytealg.IndexByteString", "internal/abi.NoEscape"], apart := false }
def RefsNumbersSaid : Prop := refsNumbersRow.holds Try.pinned (OpenSpec.ofChange refsNumbersSpec)

/-- ITS FALSE NEIGHBOUR: 'it returns false'. Refute it at one input. -/
def refsNumbersWrong : ChangeSpec := { name := "refsNumbers", fn := fun _ => fun
  | [d] => { results := [.lit (.bool false)], args := [d] }
  | _ => none }
def RefsNumbersWrongFalsely : Prop := refsNumbersRow.holds Try.pinned (OpenSpec.ofChange refsNumbersWrong)

/- THE SECOND FORM. 'bulk': how many values and letters a reading holds, each counted each time it is reached (what is shared counts as often as it is met; a slice's spare places count too). A statement '..UptoSaid' is the law's where the arguments, and the package variables that the reading takes, are together of bulk at most 1048576: NARROWER than '..Said'. Prove '..Said' where nothing that the law and all that it calls make is longer than what came in: it says more and counts as full. Else prove '..UptoSaid'. A law counts once. -/
mutual
def uptoBulk {H : Type} : DataW H → Nat
  | .lit (.string bytes) => bytes.length + 1
  | .lit _ => 1
  | .nil => 1
  | .ptr d => uptoBulk d + 1
  | .slice elems spare => uptoBulkAll elems + uptoBulkAll spare + 1
  | .agg parts => uptoBulkAll parts + 1
  | .iface _ d => uptoBulk d + 1
  | .map entries => uptoBulkEntries entries + 1
  | .held _ => 1
def uptoBulkAll {H : Type} : List (DataW H) → Nat
  | [] => 0
  | d :: r => uptoBulk d + uptoBulkAll r
def uptoBulkEntries {H : Type} : List (Lit × DataW H) → Nat
  | [] => 0
  | x :: r => uptoBulkEntry x + uptoBulkEntries r
def uptoBulkEntry {H : Type} : Lit × DataW H → Nat
  | (.string bytes, d) => bytes.length + uptoBulk d + 1
  | (_, d) => uptoBulk d + 1
 end
def uptoSmall : (H : Type) → List (DataW H) → Bool := fun _ ds => decide (uptoBulkAll ds ≤ 1048576)
def OpenSpec.upto (s : _root_.Go.ChangeSpec) : _root_.Go.OpenSpec := { _root_.Go.OpenSpec.ofChange s with cond := some uptoSmall }

/-- 'strainerlaw02.RefsWrites', WHERE WHAT IT READS IS OF BULK AT MOST 1048576: true; the input reads as it did. -/
def refsWritesUptoRow : OpenClaim := { program := "ytpfaojghaggagaa", sum := "d42dbc8a387eb7733d8151bd134514cc38b217c1690b7817b2451c2a1019ba11", func := "strainer/strainerlaw02.RefsWrites", spec := "refsWrites", inPlace := ["internal/abi.NoEscape", "internal/bytealg.IndexByteString"], apart := false, narrowed := true }
def RefsWritesUptoSaid : Prop := refsWritesUptoRow.holds Try.pinned (OpenSpec.upto refsWritesSpec)

/-- 'strainerlaw02.RefsPlain', WHERE WHAT IT READS IS OF BULK AT MOST 1048576: true; the input reads as it did. -/
def refsPlainUptoRow : OpenClaim := { program := "ytpfaojghaggagaa", sum := "d42dbc8a387eb7733d8151bd134514cc38b217c1690b7817b2451c2a1019ba11", func := "strainer/strainerlaw02.RefsPlain", spec := "refsPlain", inPlace := ["internal/abi.NoEscape", "internal/bytealg.IndexByteString"], apart := false, narrowed := true }
def RefsPlainUptoSaid : Prop := refsPlainUptoRow.holds Try.pinned (OpenSpec.upto refsPlainSpec)

/-- 'strainerlaw02.RefsJoins', WHERE WHAT IT READS IS OF BULK AT MOST 1048576: true; the input reads as it did. -/
def refsJoinsUptoRow : OpenClaim := { program := "ytpfaojghaggagaa", sum := "d42dbc8a387eb7733d8151bd134514cc38b217c1690b7817b2451c2a1019ba11", func := "strainer/strainerlaw02.RefsJoins", spec := "refsJoins", inPlace := ["internal/abi.NoEscape", "internal/bytealg.IndexByteString"], apart := false, narrowed := true }
def RefsJoinsUptoSaid : Prop := refsJoinsUptoRow.holds Try.pinned (OpenSpec.upto refsJoinsSpec)

/-- 'strainerlaw02.RefsNumbers', WHERE WHAT IT READS IS OF BULK AT MOST 1048576: true; the input reads as it did. -/
def refsNumbersUptoRow : OpenClaim := { program := "ytpfaojghaggagaa", sum := "d42dbc8a387eb7733d8151bd134514cc38b217c1690b7817b2451c2a1019ba11", func := "strainer/strainerlaw02.RefsNumbers", spec := "refsNumbers", inPlace := ["internal/bytealg.IndexByteString", "internal/abi.NoEscape"], apart := false, narrowed := true }
def RefsNumbersUptoSaid : Prop := refsNumbersUptoRow.holds Try.pinned (OpenSpec.upto refsNumbersSpec)

end Rows
end Go.Proofs.Ytpfaojghaggagaa
