/-
  No cell of these rows narrows 'for every input' (looked for: loops, veiled, ifaces, maps, wideKeys, modest, calm, conditions, laid).
  DERIVED. THE GIVEN ROWS OF THIS SEAT. 6 by the template 'for every input the law returns true; each argument reads behind the call as it read before'; 0 by the template 'total and deterministic' (their statements: YtbipdnnalhdoaaaTotals.lean).
  GIVEN WITH THE SEED: the statements are not yours to turn. If you find one false, say at which input.
  Laid BY PROGRAM, IN A SANDBOX (cutbox-rows.mjs): the forced cells as the released guide's own fill.sh prints them over the translation 0d447ff5bbe991c5… (all of the seat's roots in one cut). By AI agents, Wed Nov 11 2026. No macro, syntax, notation, axiom, sorry.
-/
import Derived.Test.YtbipdnnalhdoaaaChecked
import GoSem.Claim
import GoSem.ClaimJoined
import GoSem.ClaimMapViews
import Derived.JoinedTies
import Derived.KernelRfl
namespace Go.Proofs.Ytbipdnnalhdoaaa
/- THE CELL 'sum', in the pinned program and in every row, IS THE sha256 OF THE DUMP (.gsa) THAT YtbipdnnalhdoaaaProg.lean LOADS. Nothing in Lean hashes anything: it is a label: what it is worth is what the hold of that sum in a sandbox is worth. -/
noncomputable def Try.pinned : Pinned := { name := "ytbipdnnalhdoaaa", sum := "0d447ff5bbe991c5a8f583387c3a37db58d6aa494194587fc5ddb4c6e81e22bf", checked := Try.checked }
namespace Rows
def none {H : Type} : Left H := { results := [], args := [] }

/-- 'strainerlaw18.HedgeMay': WHATEVER THE INPUT: true; the input reads as it did. -/
def hedgeMaySpec : ChangeSpec := { name := "hedgeMay", fn := fun _ => fun
  | [d1, d2, d3, d4] => { results := [.lit (.bool true)], args := [d1, d2, d3, d4] }
  | _ => none }
def hedgeMayRow : OpenClaim := { program := "ytbipdnnalhdoaaa", sum := "0d447ff5bbe991c5a8f583387c3a37db58d6aa494194587fc5ddb4c6e81e22bf", func := "strainer/strainerlaw18.HedgeMay", spec := "hedgeMay", unfollowed := true, recurses := true, plainKeys := false, apart := false }
def HedgeMaySaid : Prop := hedgeMayRow.holds Try.pinned (OpenSpec.ofChange hedgeMaySpec)

/-- ITS FALSE NEIGHBOUR: 'it returns false'. Refute it at one input. -/
def hedgeMayWrong : ChangeSpec := { name := "hedgeMay", fn := fun _ => fun
  | [d1, d2, d3, d4] => { results := [.lit (.bool false)], args := [d1, d2, d3, d4] }
  | _ => none }
def HedgeMayWrongFalsely : Prop := hedgeMayRow.holds Try.pinned (OpenSpec.ofChange hedgeMayWrong)

/-- 'strainerlaw18.HedgeRuns': WHATEVER THE INPUT: true; the input reads as it did. -/
def hedgeRunsSpec : ChangeSpec := { name := "hedgeRuns", fn := fun _ => fun
  | [d1, d2, d3, d4] => { results := [.lit (.bool true)], args := [d1, d2, d3, d4] }
  | _ => none }
def hedgeRunsRow : OpenClaim := { program := "ytbipdnnalhdoaaa", sum := "0d447ff5bbe991c5a8f583387c3a37db58d6aa494194587fc5ddb4c6e81e22bf", func := "strainer/strainerlaw18.HedgeRuns", spec := "hedgeRuns", unfollowed := true, recurses := true, plainKeys := false, apart := false }
def HedgeRunsSaid : Prop := hedgeRunsRow.holds Try.pinned (OpenSpec.ofChange hedgeRunsSpec)

/-- ITS FALSE NEIGHBOUR: 'it returns false'. Refute it at one input. -/
def hedgeRunsWrong : ChangeSpec := { name := "hedgeRuns", fn := fun _ => fun
  | [d1, d2, d3, d4] => { results := [.lit (.bool false)], args := [d1, d2, d3, d4] }
  | _ => none }
def HedgeRunsWrongFalsely : Prop := hedgeRunsRow.holds Try.pinned (OpenSpec.ofChange hedgeRunsWrong)

/-- 'strainerlaw18.HedgeLeast': WHATEVER THE INPUT: true; the input reads as it did. -/
def hedgeLeastSpec : ChangeSpec := { name := "hedgeLeast", fn := fun _ => fun
  | [d1, d2, d3, d4] => { results := [.lit (.bool true)], args := [d1, d2, d3, d4] }
  | _ => none }
def hedgeLeastRow : OpenClaim := { program := "ytbipdnnalhdoaaa", sum := "0d447ff5bbe991c5a8f583387c3a37db58d6aa494194587fc5ddb4c6e81e22bf", func := "strainer/strainerlaw18.HedgeLeast", spec := "hedgeLeast", unfollowed := true, recurses := true, plainKeys := false, apart := false }
def HedgeLeastSaid : Prop := hedgeLeastRow.holds Try.pinned (OpenSpec.ofChange hedgeLeastSpec)

/-- ITS FALSE NEIGHBOUR: 'it returns false'. Refute it at one input. -/
def hedgeLeastWrong : ChangeSpec := { name := "hedgeLeast", fn := fun _ => fun
  | [d1, d2, d3, d4] => { results := [.lit (.bool false)], args := [d1, d2, d3, d4] }
  | _ => none }
def HedgeLeastWrongFalsely : Prop := hedgeLeastRow.holds Try.pinned (OpenSpec.ofChange hedgeLeastWrong)

/-- 'strainerlaw18.HedgeDeep': WHATEVER THE INPUT: true; the input reads as it did. -/
def hedgeDeepSpec : ChangeSpec := { name := "hedgeDeep", fn := fun _ => fun
  | [d1, d2, d3] => { results := [.lit (.bool true)], args := [d1, d2, d3] }
  | _ => none }
def hedgeDeepRow : OpenClaim := { program := "ytbipdnnalhdoaaa", sum := "0d447ff5bbe991c5a8f583387c3a37db58d6aa494194587fc5ddb4c6e81e22bf", func := "strainer/strainerlaw18.HedgeDeep", spec := "hedgeDeep", unfollowed := true, recurses := true, plainKeys := false, apart := false }
def HedgeDeepSaid : Prop := hedgeDeepRow.holds Try.pinned (OpenSpec.ofChange hedgeDeepSpec)

/-- ITS FALSE NEIGHBOUR: 'it returns false'. Refute it at one input. -/
def hedgeDeepWrong : ChangeSpec := { name := "hedgeDeep", fn := fun _ => fun
  | [d1, d2, d3] => { results := [.lit (.bool false)], args := [d1, d2, d3] }
  | _ => none }
def HedgeDeepWrongFalsely : Prop := hedgeDeepRow.holds Try.pinned (OpenSpec.ofChange hedgeDeepWrong)

/-- 'strainerlaw18.HedgeNot': WHATEVER THE INPUT: true; the input reads as it did. -/
def hedgeNotSpec : ChangeSpec := { name := "hedgeNot", fn := fun _ => fun
  | [d1, d2, d3, d4] => { results := [.lit (.bool true)], args := [d1, d2, d3, d4] }
  | _ => none }
def hedgeNotRow : OpenClaim := { program := "ytbipdnnalhdoaaa", sum := "0d447ff5bbe991c5a8f583387c3a37db58d6aa494194587fc5ddb4c6e81e22bf", func := "strainer/strainerlaw18.HedgeNot", spec := "hedgeNot", unfollowed := true, recurses := true, plainKeys := false, apart := false }
def HedgeNotSaid : Prop := hedgeNotRow.holds Try.pinned (OpenSpec.ofChange hedgeNotSpec)

/-- ITS FALSE NEIGHBOUR: 'it returns false'. Refute it at one input. -/
def hedgeNotWrong : ChangeSpec := { name := "hedgeNot", fn := fun _ => fun
  | [d1, d2, d3, d4] => { results := [.lit (.bool false)], args := [d1, d2, d3, d4] }
  | _ => none }
def HedgeNotWrongFalsely : Prop := hedgeNotRow.holds Try.pinned (OpenSpec.ofChange hedgeNotWrong)

/-- 'strainerlaw18.HedgeDiffers': WHATEVER THE INPUT: true; the input reads as it did. -/
def hedgeDiffersSpec : ChangeSpec := { name := "hedgeDiffers", fn := fun _ => fun
  | [d1, d2, d3, d4, d5, d6] => { results := [.lit (.bool true)], args := [d1, d2, d3, d4, d5, d6] }
  | _ => none }
def hedgeDiffersRow : OpenClaim := { program := "ytbipdnnalhdoaaa", sum := "0d447ff5bbe991c5a8f583387c3a37db58d6aa494194587fc5ddb4c6e81e22bf", func := "strainer/strainerlaw18.HedgeDiffers", spec := "hedgeDiffers", unfollowed := true, recurses := true, plainKeys := false, apart := false }
def HedgeDiffersSaid : Prop := hedgeDiffersRow.holds Try.pinned (OpenSpec.ofChange hedgeDiffersSpec)

/-- ITS FALSE NEIGHBOUR: 'it returns false'. Refute it at one input. -/
def hedgeDiffersWrong : ChangeSpec := { name := "hedgeDiffers", fn := fun _ => fun
  | [d1, d2, d3, d4, d5, d6] => { results := [.lit (.bool false)], args := [d1, d2, d3, d4, d5, d6] }
  | _ => none }
def HedgeDiffersWrongFalsely : Prop := hedgeDiffersRow.holds Try.pinned (OpenSpec.ofChange hedgeDiffersWrong)

/- THE SECOND FORM. 'bulk': how many values and letters a reading holds, each counted each time it is reached (what is shared counts as often as it is met; a slice's spare places count too). A statement '..UptoSaid' is the law's where the arguments, and the package variables that the reading takes, are together of bulk at most 1048576: NARROWER than '..Said'. Prove '..Said' where nothing that the law and all that it calls make is longer than what came in: it says more and counts as full. Else prove '..UptoSaid'. A law counts once. -/
mutual
def uptoBulk {H : Type} : DataW H → Nat
  | .lit (.string bytes) => bytes.length + 1
  | .lit _ => 1
  | .nil => 1
  | .ptr d => uptoBulk d + 1
  | .slice elems spare => uptoBulkAll elems + uptoBulkAll spare + 1
  | .agg parts => uptoBulkAll parts + 1
  | .iface _ d => uptoBulk d + 1
  | .map entries => uptoBulkEntries entries + 1
  | .held _ => 1
def uptoBulkAll {H : Type} : List (DataW H) → Nat
  | [] => 0
  | d :: r => uptoBulk d + uptoBulkAll r
def uptoBulkEntries {H : Type} : List (Lit × DataW H) → Nat
  | [] => 0
  | x :: r => uptoBulkEntry x + uptoBulkEntries r
def uptoBulkEntry {H : Type} : Lit × DataW H → Nat
  | (.string bytes, d) => bytes.length + uptoBulk d + 1
  | (_, d) => uptoBulk d + 1
 end
def uptoSmall : (H : Type) → List (DataW H) → Bool := fun _ ds => decide (uptoBulkAll ds ≤ 1048576)
def OpenSpec.upto (s : _root_.Go.ChangeSpec) : _root_.Go.OpenSpec := { _root_.Go.OpenSpec.ofChange s with cond := some uptoSmall }

/-- 'strainerlaw18.HedgeMay', WHERE WHAT IT READS IS OF BULK AT MOST 1048576: true; the input reads as it did. -/
def hedgeMayUptoRow : OpenClaim := { program := "ytbipdnnalhdoaaa", sum := "0d447ff5bbe991c5a8f583387c3a37db58d6aa494194587fc5ddb4c6e81e22bf", func := "strainer/strainerlaw18.HedgeMay", spec := "hedgeMay", unfollowed := true, recurses := true, plainKeys := false, apart := false, narrowed := true }
def HedgeMayUptoSaid : Prop := hedgeMayUptoRow.holds Try.pinned (OpenSpec.upto hedgeMaySpec)

/-- 'strainerlaw18.HedgeRuns', WHERE WHAT IT READS IS OF BULK AT MOST 1048576: true; the input reads as it did. -/
def hedgeRunsUptoRow : OpenClaim := { program := "ytbipdnnalhdoaaa", sum := "0d447ff5bbe991c5a8f583387c3a37db58d6aa494194587fc5ddb4c6e81e22bf", func := "strainer/strainerlaw18.HedgeRuns", spec := "hedgeRuns", unfollowed := true, recurses := true, plainKeys := false, apart := false, narrowed := true }
def HedgeRunsUptoSaid : Prop := hedgeRunsUptoRow.holds Try.pinned (OpenSpec.upto hedgeRunsSpec)

/-- 'strainerlaw18.HedgeLeast', WHERE WHAT IT READS IS OF BULK AT MOST 1048576: true; the input reads as it did. -/
def hedgeLeastUptoRow : OpenClaim := { program := "ytbipdnnalhdoaaa", sum := "0d447ff5bbe991c5a8f583387c3a37db58d6aa494194587fc5ddb4c6e81e22bf", func := "strainer/strainerlaw18.HedgeLeast", spec := "hedgeLeast", unfollowed := true, recurses := true, plainKeys := false, apart := false, narrowed := true }
def HedgeLeastUptoSaid : Prop := hedgeLeastUptoRow.holds Try.pinned (OpenSpec.upto hedgeLeastSpec)

/-- 'strainerlaw18.HedgeDeep', WHERE WHAT IT READS IS OF BULK AT MOST 1048576: true; the input reads as it did. -/
def hedgeDeepUptoRow : OpenClaim := { program := "ytbipdnnalhdoaaa", sum := "0d447ff5bbe991c5a8f583387c3a37db58d6aa494194587fc5ddb4c6e81e22bf", func := "strainer/strainerlaw18.HedgeDeep", spec := "hedgeDeep", unfollowed := true, recurses := true, plainKeys := false, apart := false, narrowed := true }
def HedgeDeepUptoSaid : Prop := hedgeDeepUptoRow.holds Try.pinned (OpenSpec.upto hedgeDeepSpec)

/-- 'strainerlaw18.HedgeNot', WHERE WHAT IT READS IS OF BULK AT MOST 1048576: true; the input reads as it did. -/
def hedgeNotUptoRow : OpenClaim := { program := "ytbipdnnalhdoaaa", sum := "0d447ff5bbe991c5a8f583387c3a37db58d6aa494194587fc5ddb4c6e81e22bf", func := "strainer/strainerlaw18.HedgeNot", spec := "hedgeNot", unfollowed := true, recurses := true, plainKeys := false, apart := false, narrowed := true }
def HedgeNotUptoSaid : Prop := hedgeNotUptoRow.holds Try.pinned (OpenSpec.upto hedgeNotSpec)

/-- 'strainerlaw18.HedgeDiffers', WHERE WHAT IT READS IS OF BULK AT MOST 1048576: true; the input reads as it did. -/
def hedgeDiffersUptoRow : OpenClaim := { program := "ytbipdnnalhdoaaa", sum := "0d447ff5bbe991c5a8f583387c3a37db58d6aa494194587fc5ddb4c6e81e22bf", func := "strainer/strainerlaw18.HedgeDiffers", spec := "hedgeDiffers", unfollowed := true, recurses := true, plainKeys := false, apart := false, narrowed := true }
def HedgeDiffersUptoSaid : Prop := hedgeDiffersUptoRow.holds Try.pinned (OpenSpec.upto hedgeDiffersSpec)

end Rows
end Go.Proofs.Ytbipdnnalhdoaaa
