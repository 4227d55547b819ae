/-
  No cell of these rows narrows 'for every input' (looked for: loops, veiled, ifaces, maps, wideKeys, modest, calm, conditions, laid).
  DERIVED. THE GIVEN ROWS OF THIS SEAT. 16 by the template 'for every input the law returns true; each argument reads behind the call as it read before'; 0 by the template 'total and deterministic' (their statements: YthkdaoomnfgooaaTotals.lean).
  GIVEN WITH THE SEED: the statements are not yours to turn. If you find one false, say at which input.
  Laid BY PROGRAM, IN A SANDBOX (cutbox-rows.mjs): the forced cells as the released guide's own fill.sh prints them over the translation 4b5ad85cfea4eefe… (all of the seat's roots in one cut). By AI agents, Wed Nov 11 2026. No macro, syntax, notation, axiom, sorry.
-/
import Derived.Test.YthkdaoomnfgooaaChecked
import GoSem.Claim
import GoSem.ClaimJoined
import GoSem.ClaimMapViews
import Derived.JoinedTies
import Derived.KernelRfl
namespace Go.Proofs.Ythkdaoomnfgooaa
/- THE CELL 'sum', in the pinned program and in every row, IS THE sha256 OF THE DUMP (.gsa) THAT YthkdaoomnfgooaaProg.lean LOADS. Nothing in Lean hashes anything: it is a label: what it is worth is what the hold of that sum in a sandbox is worth. -/
noncomputable def Try.pinned : Pinned := { name := "ythkdaoomnfgooaa", sum := "4b5ad85cfea4eefe39ecae8e53c1d7b0aed667d4ce6aed21201da3b8f45fa390", checked := Try.checked }
namespace Rows
def none {H : Type} : Left H := { results := [], args := [] }

/-- 'moidorelaw36.FrontierValid': WHATEVER THE INPUT: true; the input reads as it did. -/
def frontierValidSpec : ChangeSpec := { name := "frontierValid", fn := fun _ => fun
  | [d] => { results := [.lit (.bool true)], args := [d] }
  | _ => none }
def frontierValidRow : OpenClaim := { program := "ythkdaoomnfgooaa", sum := "4b5ad85cfea4eefe39ecae8e53c1d7b0aed667d4ce6aed21201da3b8f45fa390", func := "moidore/moidorelaw36.FrontierValid", spec := "frontierValid", inPlace := ["math/bits.Add64"], named := ["math/bits.divideError", "math/bits.overflowError"], apart := false }
def FrontierValidSaid : Prop := frontierValidRow.holds Try.pinned (OpenSpec.ofChange frontierValidSpec)

/-- ITS FALSE NEIGHBOUR: 'it returns false'. Refute it at one input. -/
def frontierValidWrong : ChangeSpec := { name := "frontierValid", fn := fun _ => fun
  | [d] => { results := [.lit (.bool false)], args := [d] }
  | _ => none }
def FrontierValidWrongFalsely : Prop := frontierValidRow.holds Try.pinned (OpenSpec.ofChange frontierValidWrong)

/-- 'moidorelaw36.FrontierNew': WHATEVER THE INPUT: true; the input reads as it did. -/
def frontierNewSpec : ChangeSpec := { name := "frontierNew", fn := fun _ => fun
  | [d] => { results := [.lit (.bool true)], args := [d] }
  | _ => none }
def frontierNewRow : OpenClaim := { program := "ythkdaoomnfgooaa", sum := "4b5ad85cfea4eefe39ecae8e53c1d7b0aed667d4ce6aed21201da3b8f45fa390", func := "moidore/moidorelaw36.FrontierNew", spec := "frontierNew", inPlace := ["math/bits.Add64"], named := ["math/bits.divideError", "math/bits.overflowError"], apart := false }
def FrontierNewSaid : Prop := frontierNewRow.holds Try.pinned (OpenSpec.ofChange frontierNewSpec)

/-- ITS FALSE NEIGHBOUR: 'it returns false'. Refute it at one input. -/
def frontierNewWrong : ChangeSpec := { name := "frontierNew", fn := fun _ => fun
  | [d] => { results := [.lit (.bool false)], args := [d] }
  | _ => none }
def FrontierNewWrongFalsely : Prop := frontierNewRow.holds Try.pinned (OpenSpec.ofChange frontierNewWrong)

/-- 'moidorelaw36.FrontierAppend': WHATEVER THE INPUT: true; the input reads as it did. -/
def frontierAppendSpec : ChangeSpec := { name := "frontierAppend", fn := fun _ => fun
  | [d1, d2] => { results := [.lit (.bool true)], args := [d1, d2] }
  | _ => none }
def frontierAppendRow : OpenClaim := { program := "ythkdaoomnfgooaa", sum := "4b5ad85cfea4eefe39ecae8e53c1d7b0aed667d4ce6aed21201da3b8f45fa390", func := "moidore/moidorelaw36.FrontierAppend", spec := "frontierAppend", inPlace := ["math/bits.Add64"], named := ["math/bits.divideError", "math/bits.overflowError"], apart := false }
def FrontierAppendSaid : Prop := frontierAppendRow.holds Try.pinned (OpenSpec.ofChange frontierAppendSpec)

/-- ITS FALSE NEIGHBOUR: 'it returns false'. Refute it at one input. -/
def frontierAppendWrong : ChangeSpec := { name := "frontierAppend", fn := fun _ => fun
  | [d1, d2] => { results := [.lit (.bool false)], args := [d1, d2] }
  | _ => none }
def FrontierAppendWrongFalsely : Prop := frontierAppendRow.holds Try.pinned (OpenSpec.ofChange frontierAppendWrong)

/-- 'moidorelaw36.FrontierRoot': WHATEVER THE INPUT: true; the input reads as it did. -/
def frontierRootSpec : ChangeSpec := { name := "frontierRoot", fn := fun _ => fun
  | [d1, d2] => { results := [.lit (.bool true)], args := [d1, d2] }
  | _ => none }
def frontierRootRow : OpenClaim := { program := "ythkdaoomnfgooaa", sum := "4b5ad85cfea4eefe39ecae8e53c1d7b0aed667d4ce6aed21201da3b8f45fa390", func := "moidore/moidorelaw36.FrontierRoot", spec := "frontierRoot", inPlace := ["math/bits.Add64"], named := ["math/bits.divideError", "math/bits.overflowError"], apart := false }
def FrontierRootSaid : Prop := frontierRootRow.holds Try.pinned (OpenSpec.ofChange frontierRootSpec)

/-- ITS FALSE NEIGHBOUR: 'it returns false'. Refute it at one input. -/
def frontierRootWrong : ChangeSpec := { name := "frontierRoot", fn := fun _ => fun
  | [d1, d2] => { results := [.lit (.bool false)], args := [d1, d2] }
  | _ => none }
def FrontierRootWrongFalsely : Prop := frontierRootRow.holds Try.pinned (OpenSpec.ofChange frontierRootWrong)

/-- 'moidorelaw36.FrontierFull': WHATEVER THE INPUT: true; the input reads as it did. -/
def frontierFullSpec : ChangeSpec := { name := "frontierFull", fn := fun _ => fun
  | [d1, d2] => { results := [.lit (.bool true)], args := [d1, d2] }
  | _ => none }
def frontierFullRow : OpenClaim := { program := "ythkdaoomnfgooaa", sum := "4b5ad85cfea4eefe39ecae8e53c1d7b0aed667d4ce6aed21201da3b8f45fa390", func := "moidore/moidorelaw36.FrontierFull", spec := "frontierFull", inPlace := ["math/bits.Add64"], named := ["math/bits.divideError", "math/bits.overflowError"], apart := false }
def FrontierFullSaid : Prop := frontierFullRow.holds Try.pinned (OpenSpec.ofChange frontierFullSpec)

/-- ITS FALSE NEIGHBOUR: 'it returns false'. Refute it at one input. -/
def frontierFullWrong : ChangeSpec := { name := "frontierFull", fn := fun _ => fun
  | [d1, d2] => { results := [.lit (.bool false)], args := [d1, d2] }
  | _ => none }
def FrontierFullWrongFalsely : Prop := frontierFullRow.holds Try.pinned (OpenSpec.ofChange frontierFullWrong)

/-- 'moidorelaw36.FrontierDetermined': WHATEVER THE INPUT: true; the input reads as it did. -/
def frontierDeterminedSpec : ChangeSpec := { name := "frontierDetermined", fn := fun _ => fun
  | [d1, d2, d3] => { results := [.lit (.bool true)], args := [d1, d2, d3] }
  | _ => none }
def frontierDeterminedRow : OpenClaim := { program := "ythkdaoomnfgooaa", sum := "4b5ad85cfea4eefe39ecae8e53c1d7b0aed667d4ce6aed21201da3b8f45fa390", func := "moidore/moidorelaw36.FrontierDetermined", spec := "frontierDetermined", inPlace := ["math/bits.Add64"], named := ["math/bits.divideError", "math/bits.overflowError"], apart := false }
def FrontierDeterminedSaid : Prop := frontierDeterminedRow.holds Try.pinned (OpenSpec.ofChange frontierDeterminedSpec)

/-- ITS FALSE NEIGHBOUR: 'it returns false'. Refute it at one input. -/
def frontierDeterminedWrong : ChangeSpec := { name := "frontierDetermined", fn := fun _ => fun
  | [d1, d2, d3] => { results := [.lit (.bool false)], args := [d1, d2, d3] }
  | _ => none }
def FrontierDeterminedWrongFalsely : Prop := frontierDeterminedRow.holds Try.pinned (OpenSpec.ofChange frontierDeterminedWrong)

/-- 'moidorelaw36.FrontierPaths': WHATEVER THE INPUT: true; the input reads as it did. -/
def frontierPathsSpec : ChangeSpec := { name := "frontierPaths", fn := fun _ => fun
  | [d1, d2, d3] => { results := [.lit (.bool true)], args := [d1, d2, d3] }
  | _ => none }
def frontierPathsRow : OpenClaim := { program := "ythkdaoomnfgooaa", sum := "4b5ad85cfea4eefe39ecae8e53c1d7b0aed667d4ce6aed21201da3b8f45fa390", func := "moidore/moidorelaw36.FrontierPaths", spec := "frontierPaths", inPlace := ["math/bits.Add64"], named := ["math/bits.divideError", "math/bits.overflowError"], apart := false }
def FrontierPathsSaid : Prop := frontierPathsRow.holds Try.pinned (OpenSpec.ofChange frontierPathsSpec)

/-- ITS FALSE NEIGHBOUR: 'it returns false'. Refute it at one input. -/
def frontierPathsWrong : ChangeSpec := { name := "frontierPaths", fn := fun _ => fun
  | [d1, d2, d3] => { results := [.lit (.bool false)], args := [d1, d2, d3] }
  | _ => none }
def FrontierPathsWrongFalsely : Prop := frontierPathsRow.holds Try.pinned (OpenSpec.ofChange frontierPathsWrong)

/-- 'moidorelaw36.FrontierClimb': WHATEVER THE INPUT: true; the input reads as it did. -/
def frontierClimbSpec : ChangeSpec := { name := "frontierClimb", fn := fun _ => fun
  | [d1, d2, d3] => { results := [.lit (.bool true)], args := [d1, d2, d3] }
  | _ => none }
def frontierClimbRow : OpenClaim := { program := "ythkdaoomnfgooaa", sum := "4b5ad85cfea4eefe39ecae8e53c1d7b0aed667d4ce6aed21201da3b8f45fa390", func := "moidore/moidorelaw36.FrontierClimb", spec := "frontierClimb", inPlace := ["math/bits.Add64"], named := ["math/bits.divideError", "math/bits.overflowError"], apart := false }
def FrontierClimbSaid : Prop := frontierClimbRow.holds Try.pinned (OpenSpec.ofChange frontierClimbSpec)

/-- ITS FALSE NEIGHBOUR: 'it returns false'. Refute it at one input. -/
def frontierClimbWrong : ChangeSpec := { name := "frontierClimb", fn := fun _ => fun
  | [d1, d2, d3] => { results := [.lit (.bool false)], args := [d1, d2, d3] }
  | _ => none }
def FrontierClimbWrongFalsely : Prop := frontierClimbRow.holds Try.pinned (OpenSpec.ofChange frontierClimbWrong)

/-- 'moidorelaw37.TreelogHistory': WHATEVER THE INPUT: true; the input reads as it did. -/
def treelogHistorySpec : ChangeSpec := { name := "treelogHistory", fn := fun _ => fun
  | [d1, d2] => { results := [.lit (.bool true)], args := [d1, d2] }
  | _ => none }
def treelogHistoryRow : OpenClaim := { program := "ythkdaoomnfgooaa", sum := "4b5ad85cfea4eefe39ecae8e53c1d7b0aed667d4ce6aed21201da3b8f45fa390", func := "moidore/moidorelaw37.TreelogHistory", spec := "treelogHistory", inPlace := ["math/bits.Add64"], named := ["math/bits.divideError", "math/bits.overflowError"], apart := false }
def TreelogHistorySaid : Prop := treelogHistoryRow.holds Try.pinned (OpenSpec.ofChange treelogHistorySpec)

/-- ITS FALSE NEIGHBOUR: 'it returns false'. Refute it at one input. -/
def treelogHistoryWrong : ChangeSpec := { name := "treelogHistory", fn := fun _ => fun
  | [d1, d2] => { results := [.lit (.bool false)], args := [d1, d2] }
  | _ => none }
def TreelogHistoryWrongFalsely : Prop := treelogHistoryRow.holds Try.pinned (OpenSpec.ofChange treelogHistoryWrong)

/-- 'moidorelaw37.TreelogMatchesList': WHATEVER THE INPUT: true; the input reads as it did. -/
def treelogMatchesListSpec : ChangeSpec := { name := "treelogMatchesList", fn := fun _ => fun
  | [d1, d2] => { results := [.lit (.bool true)], args := [d1, d2] }
  | _ => none }
def treelogMatchesListRow : OpenClaim := { program := "ythkdaoomnfgooaa", sum := "4b5ad85cfea4eefe39ecae8e53c1d7b0aed667d4ce6aed21201da3b8f45fa390", func := "moidore/moidorelaw37.TreelogMatchesList", spec := "treelogMatchesList", inPlace := ["math/bits.Add64"], recurses := true, named := ["math/bits.divideError", "math/bits.overflowError"], apart := false }
def TreelogMatchesListSaid : Prop := treelogMatchesListRow.holds Try.pinned (OpenSpec.ofChange treelogMatchesListSpec)

/-- ITS FALSE NEIGHBOUR: 'it returns false'. Refute it at one input. -/
def treelogMatchesListWrong : ChangeSpec := { name := "treelogMatchesList", fn := fun _ => fun
  | [d1, d2] => { results := [.lit (.bool false)], args := [d1, d2] }
  | _ => none }
def TreelogMatchesListWrongFalsely : Prop := treelogMatchesListRow.holds Try.pinned (OpenSpec.ofChange treelogMatchesListWrong)

/-- 'moidorelaw37.TreelogSteps': WHATEVER THE INPUT: true; the input reads as it did. -/
def treelogStepsSpec : ChangeSpec := { name := "treelogSteps", fn := fun _ => fun
  | [d1, d2] => { results := [.lit (.bool true)], args := [d1, d2] }
  | _ => none }
def treelogStepsRow : OpenClaim := { program := "ythkdaoomnfgooaa", sum := "4b5ad85cfea4eefe39ecae8e53c1d7b0aed667d4ce6aed21201da3b8f45fa390", func := "moidore/moidorelaw37.TreelogSteps", spec := "treelogSteps", inPlace := ["math/bits.Add64"], recurses := true, named := ["math/bits.divideError", "math/bits.overflowError"], apart := false }
def TreelogStepsSaid : Prop := treelogStepsRow.holds Try.pinned (OpenSpec.ofChange treelogStepsSpec)

/-- ITS FALSE NEIGHBOUR: 'it returns false'. Refute it at one input. -/
def treelogStepsWrong : ChangeSpec := { name := "treelogSteps", fn := fun _ => fun
  | [d1, d2] => { results := [.lit (.bool false)], args := [d1, d2] }
  | _ => none }
def TreelogStepsWrongFalsely : Prop := treelogStepsRow.holds Try.pinned (OpenSpec.ofChange treelogStepsWrong)

/-- 'moidorelaw37.TreelogUndo': WHATEVER THE INPUT: true; the input reads as it did. -/
def treelogUndoSpec : ChangeSpec := { name := "treelogUndo", fn := fun _ => fun
  | [d1, d2, d3] => { results := [.lit (.bool true)], args := [d1, d2, d3] }
  | _ => none }
def treelogUndoRow : OpenClaim := { program := "ythkdaoomnfgooaa", sum := "4b5ad85cfea4eefe39ecae8e53c1d7b0aed667d4ce6aed21201da3b8f45fa390", func := "moidore/moidorelaw37.TreelogUndo", spec := "treelogUndo", inPlace := ["math/bits.Add64"], recurses := true, named := ["math/bits.divideError", "math/bits.overflowError"], apart := false }
def TreelogUndoSaid : Prop := treelogUndoRow.holds Try.pinned (OpenSpec.ofChange treelogUndoSpec)

/-- ITS FALSE NEIGHBOUR: 'it returns false'. Refute it at one input. -/
def treelogUndoWrong : ChangeSpec := { name := "treelogUndo", fn := fun _ => fun
  | [d1, d2, d3] => { results := [.lit (.bool false)], args := [d1, d2, d3] }
  | _ => none }
def TreelogUndoWrongFalsely : Prop := treelogUndoRow.holds Try.pinned (OpenSpec.ofChange treelogUndoWrong)

/-- 'moidorelaw37.TreelogErrors': WHATEVER THE INPUT: true; the input reads as it did. -/
def treelogErrorsSpec : ChangeSpec := { name := "treelogErrors", fn := fun _ => fun
  | [d1, d2, d3] => { results := [.lit (.bool true)], args := [d1, d2, d3] }
  | _ => none }
def treelogErrorsRow : OpenClaim := { program := "ythkdaoomnfgooaa", sum := "4b5ad85cfea4eefe39ecae8e53c1d7b0aed667d4ce6aed21201da3b8f45fa390", func := "moidore/moidorelaw37.TreelogErrors", spec := "treelogErrors", inPlace := ["math/bits.Add64"], recurses := true, named := ["math/bits.divideError", "math/bits.overflowError"], apart := false }
def TreelogErrorsSaid : Prop := treelogErrorsRow.holds Try.pinned (OpenSpec.ofChange treelogErrorsSpec)

/-- ITS FALSE NEIGHBOUR: 'it returns false'. Refute it at one input. -/
def treelogErrorsWrong : ChangeSpec := { name := "treelogErrors", fn := fun _ => fun
  | [d1, d2, d3] => { results := [.lit (.bool false)], args := [d1, d2, d3] }
  | _ => none }
def TreelogErrorsWrongFalsely : Prop := treelogErrorsRow.holds Try.pinned (OpenSpec.ofChange treelogErrorsWrong)

/-- 'moidorelaw37.TreelogPaths': WHATEVER THE INPUT: true; the input reads as it did. -/
def treelogPathsSpec : ChangeSpec := { name := "treelogPaths", fn := fun _ => fun
  | [d1, d2] => { results := [.lit (.bool true)], args := [d1, d2] }
  | _ => none }
def treelogPathsRow : OpenClaim := { program := "ythkdaoomnfgooaa", sum := "4b5ad85cfea4eefe39ecae8e53c1d7b0aed667d4ce6aed21201da3b8f45fa390", func := "moidore/moidorelaw37.TreelogPaths", spec := "treelogPaths", inPlace := ["math/bits.Add64"], named := ["math/bits.divideError", "math/bits.overflowError"], apart := false }
def TreelogPathsSaid : Prop := treelogPathsRow.holds Try.pinned (OpenSpec.ofChange treelogPathsSpec)

/-- ITS FALSE NEIGHBOUR: 'it returns false'. Refute it at one input. -/
def treelogPathsWrong : ChangeSpec := { name := "treelogPaths", fn := fun _ => fun
  | [d1, d2] => { results := [.lit (.bool false)], args := [d1, d2] }
  | _ => none }
def TreelogPathsWrongFalsely : Prop := treelogPathsRow.holds Try.pinned (OpenSpec.ofChange treelogPathsWrong)

/-- 'moidorelaw37.TreelogFrontier': WHATEVER THE INPUT: true; the input reads as it did. -/
def treelogFrontierSpec : ChangeSpec := { name := "treelogFrontier", fn := fun _ => fun
  | [d1, d2] => { results := [.lit (.bool true)], args := [d1, d2] }
  | _ => none }
def treelogFrontierRow : OpenClaim := { program := "ythkdaoomnfgooaa", sum := "4b5ad85cfea4eefe39ecae8e53c1d7b0aed667d4ce6aed21201da3b8f45fa390", func := "moidore/moidorelaw37.TreelogFrontier", spec := "treelogFrontier", inPlace := ["math/bits.Add64"], named := ["math/bits.divideError", "math/bits.overflowError"], apart := false }
def TreelogFrontierSaid : Prop := treelogFrontierRow.holds Try.pinned (OpenSpec.ofChange treelogFrontierSpec)

/-- ITS FALSE NEIGHBOUR: 'it returns false'. Refute it at one input. -/
def treelogFrontierWrong : ChangeSpec := { name := "treelogFrontier", fn := fun _ => fun
  | [d1, d2] => { results := [.lit (.bool false)], args := [d1, d2] }
  | _ => none }
def TreelogFrontierWrongFalsely : Prop := treelogFrontierRow.holds Try.pinned (OpenSpec.ofChange treelogFrontierWrong)

/-- 'moidoretop.TopTree': WHATEVER THE INPUT: true; the input reads as it did. -/
def topTreeSpec : ChangeSpec := { name := "topTree", fn := fun _ => fun
  | [d1, d2, d3] => { results := [.lit (.bool true)], args := [d1, d2, d3] }
  | _ => none }
def topTreeRow : OpenClaim := { program := "ythkdaoomnfgooaa", sum := "4b5ad85cfea4eefe39ecae8e53c1d7b0aed667d4ce6aed21201da3b8f45fa390", func := "moidore/moidoretop.TopTree", spec := "topTree", inPlace := ["math/bits.Add64"], named := ["math/bits.divideError", "math/bits.overflowError"], apart := false }
def TopTreeSaid : Prop := topTreeRow.holds Try.pinned (OpenSpec.ofChange topTreeSpec)

/-- ITS FALSE NEIGHBOUR: 'it returns false'. Refute it at one input. -/
def topTreeWrong : ChangeSpec := { name := "topTree", fn := fun _ => fun
  | [d1, d2, d3] => { results := [.lit (.bool false)], args := [d1, d2, d3] }
  | _ => none }
def TopTreeWrongFalsely : Prop := topTreeRow.holds Try.pinned (OpenSpec.ofChange topTreeWrong)

/- THE SECOND FORM. 'bulk': how many values and letters a reading holds, each counted each time it is reached (what is shared counts as often as it is met; a slice's spare places count too). A statement '..UptoSaid' is the law's where the arguments, and the package variables that the reading takes, are together of bulk at most 1048576: NARROWER than '..Said'. Prove '..Said' where nothing that the law and all that it calls make is longer than what came in: it says more and counts as full. Else prove '..UptoSaid'. A law counts once. -/
mutual
def uptoBulk {H : Type} : DataW H → Nat
  | .lit (.string bytes) => bytes.length + 1
  | .lit _ => 1
  | .nil => 1
  | .ptr d => uptoBulk d + 1
  | .slice elems spare => uptoBulkAll elems + uptoBulkAll spare + 1
  | .agg parts => uptoBulkAll parts + 1
  | .iface _ d => uptoBulk d + 1
  | .map entries => uptoBulkEntries entries + 1
  | .held _ => 1
def uptoBulkAll {H : Type} : List (DataW H) → Nat
  | [] => 0
  | d :: r => uptoBulk d + uptoBulkAll r
def uptoBulkEntries {H : Type} : List (Lit × DataW H) → Nat
  | [] => 0
  | x :: r => uptoBulkEntry x + uptoBulkEntries r
def uptoBulkEntry {H : Type} : Lit × DataW H → Nat
  | (.string bytes, d) => bytes.length + uptoBulk d + 1
  | (_, d) => uptoBulk d + 1
 end
def uptoSmall : (H : Type) → List (DataW H) → Bool := fun _ ds => decide (uptoBulkAll ds ≤ 1048576)
def OpenSpec.upto (s : _root_.Go.ChangeSpec) : _root_.Go.OpenSpec := { _root_.Go.OpenSpec.ofChange s with cond := some uptoSmall }

/-- 'moidorelaw36.FrontierValid', WHERE WHAT IT READS IS OF BULK AT MOST 1048576: true; the input reads as it did. -/
def frontierValidUptoRow : OpenClaim := { program := "ythkdaoomnfgooaa", sum := "4b5ad85cfea4eefe39ecae8e53c1d7b0aed667d4ce6aed21201da3b8f45fa390", func := "moidore/moidorelaw36.FrontierValid", spec := "frontierValid", inPlace := ["math/bits.Add64"], named := ["math/bits.divideError", "math/bits.overflowError"], apart := false, narrowed := true }
def FrontierValidUptoSaid : Prop := frontierValidUptoRow.holds Try.pinned (OpenSpec.upto frontierValidSpec)

/-- 'moidorelaw36.FrontierNew', WHERE WHAT IT READS IS OF BULK AT MOST 1048576: true; the input reads as it did. -/
def frontierNewUptoRow : OpenClaim := { program := "ythkdaoomnfgooaa", sum := "4b5ad85cfea4eefe39ecae8e53c1d7b0aed667d4ce6aed21201da3b8f45fa390", func := "moidore/moidorelaw36.FrontierNew", spec := "frontierNew", inPlace := ["math/bits.Add64"], named := ["math/bits.divideError", "math/bits.overflowError"], apart := false, narrowed := true }
def FrontierNewUptoSaid : Prop := frontierNewUptoRow.holds Try.pinned (OpenSpec.upto frontierNewSpec)

/-- 'moidorelaw36.FrontierAppend', WHERE WHAT IT READS IS OF BULK AT MOST 1048576: true; the input reads as it did. -/
def frontierAppendUptoRow : OpenClaim := { program := "ythkdaoomnfgooaa", sum := "4b5ad85cfea4eefe39ecae8e53c1d7b0aed667d4ce6aed21201da3b8f45fa390", func := "moidore/moidorelaw36.FrontierAppend", spec := "frontierAppend", inPlace := ["math/bits.Add64"], named := ["math/bits.divideError", "math/bits.overflowError"], apart := false, narrowed := true }
def FrontierAppendUptoSaid : Prop := frontierAppendUptoRow.holds Try.pinned (OpenSpec.upto frontierAppendSpec)

/-- 'moidorelaw36.FrontierRoot', WHERE WHAT IT READS IS OF BULK AT MOST 1048576: true; the input reads as it did. -/
def frontierRootUptoRow : OpenClaim := { program := "ythkdaoomnfgooaa", sum := "4b5ad85cfea4eefe39ecae8e53c1d7b0aed667d4ce6aed21201da3b8f45fa390", func := "moidore/moidorelaw36.FrontierRoot", spec := "frontierRoot", inPlace := ["math/bits.Add64"], named := ["math/bits.divideError", "math/bits.overflowError"], apart := false, narrowed := true }
def FrontierRootUptoSaid : Prop := frontierRootUptoRow.holds Try.pinned (OpenSpec.upto frontierRootSpec)

/-- 'moidorelaw36.FrontierFull', WHERE WHAT IT READS IS OF BULK AT MOST 1048576: true; the input reads as it did. -/
def frontierFullUptoRow : OpenClaim := { program := "ythkdaoomnfgooaa", sum := "4b5ad85cfea4eefe39ecae8e53c1d7b0aed667d4ce6aed21201da3b8f45fa390", func := "moidore/moidorelaw36.FrontierFull", spec := "frontierFull", inPlace := ["math/bits.Add64"], named := ["math/bits.divideError", "math/bits.overflowError"], apart := false, narrowed := true }
def FrontierFullUptoSaid : Prop := frontierFullUptoRow.holds Try.pinned (OpenSpec.upto frontierFullSpec)

/-- 'moidorelaw36.FrontierDetermined', WHERE WHAT IT READS IS OF BULK AT MOST 1048576: true; the input reads as it did. -/
def frontierDeterminedUptoRow : OpenClaim := { program := "ythkdaoomnfgooaa", sum := "4b5ad85cfea4eefe39ecae8e53c1d7b0aed667d4ce6aed21201da3b8f45fa390", func := "moidore/moidorelaw36.FrontierDetermined", spec := "frontierDetermined", inPlace := ["math/bits.Add64"], named := ["math/bits.divideError", "math/bits.overflowError"], apart := false, narrowed := true }
def FrontierDeterminedUptoSaid : Prop := frontierDeterminedUptoRow.holds Try.pinned (OpenSpec.upto frontierDeterminedSpec)

/-- 'moidorelaw36.FrontierPaths', WHERE WHAT IT READS IS OF BULK AT MOST 1048576: true; the input reads as it did. -/
def frontierPathsUptoRow : OpenClaim := { program := "ythkdaoomnfgooaa", sum := "4b5ad85cfea4eefe39ecae8e53c1d7b0aed667d4ce6aed21201da3b8f45fa390", func := "moidore/moidorelaw36.FrontierPaths", spec := "frontierPaths", inPlace := ["math/bits.Add64"], named := ["math/bits.divideError", "math/bits.overflowError"], apart := false, narrowed := true }
def FrontierPathsUptoSaid : Prop := frontierPathsUptoRow.holds Try.pinned (OpenSpec.upto frontierPathsSpec)

/-- 'moidorelaw36.FrontierClimb', WHERE WHAT IT READS IS OF BULK AT MOST 1048576: true; the input reads as it did. -/
def frontierClimbUptoRow : OpenClaim := { program := "ythkdaoomnfgooaa", sum := "4b5ad85cfea4eefe39ecae8e53c1d7b0aed667d4ce6aed21201da3b8f45fa390", func := "moidore/moidorelaw36.FrontierClimb", spec := "frontierClimb", inPlace := ["math/bits.Add64"], named := ["math/bits.divideError", "math/bits.overflowError"], apart := false, narrowed := true }
def FrontierClimbUptoSaid : Prop := frontierClimbUptoRow.holds Try.pinned (OpenSpec.upto frontierClimbSpec)

/-- 'moidorelaw37.TreelogHistory', WHERE WHAT IT READS IS OF BULK AT MOST 1048576: true; the input reads as it did. -/
def treelogHistoryUptoRow : OpenClaim := { program := "ythkdaoomnfgooaa", sum := "4b5ad85cfea4eefe39ecae8e53c1d7b0aed667d4ce6aed21201da3b8f45fa390", func := "moidore/moidorelaw37.TreelogHistory", spec := "treelogHistory", inPlace := ["math/bits.Add64"], named := ["math/bits.divideError", "math/bits.overflowError"], apart := false, narrowed := true }
def TreelogHistoryUptoSaid : Prop := treelogHistoryUptoRow.holds Try.pinned (OpenSpec.upto treelogHistorySpec)

/-- 'moidorelaw37.TreelogMatchesList', WHERE WHAT IT READS IS OF BULK AT MOST 1048576: true; the input reads as it did. -/
def treelogMatchesListUptoRow : OpenClaim := { program := "ythkdaoomnfgooaa", sum := "4b5ad85cfea4eefe39ecae8e53c1d7b0aed667d4ce6aed21201da3b8f45fa390", func := "moidore/moidorelaw37.TreelogMatchesList", spec := "treelogMatchesList", inPlace := ["math/bits.Add64"], recurses := true, named := ["math/bits.divideError", "math/bits.overflowError"], apart := false, narrowed := true }
def TreelogMatchesListUptoSaid : Prop := treelogMatchesListUptoRow.holds Try.pinned (OpenSpec.upto treelogMatchesListSpec)

/-- 'moidorelaw37.TreelogSteps', WHERE WHAT IT READS IS OF BULK AT MOST 1048576: true; the input reads as it did. -/
def treelogStepsUptoRow : OpenClaim := { program := "ythkdaoomnfgooaa", sum := "4b5ad85cfea4eefe39ecae8e53c1d7b0aed667d4ce6aed21201da3b8f45fa390", func := "moidore/moidorelaw37.TreelogSteps", spec := "treelogSteps", inPlace := ["math/bits.Add64"], recurses := true, named := ["math/bits.divideError", "math/bits.overflowError"], apart := false, narrowed := true }
def TreelogStepsUptoSaid : Prop := treelogStepsUptoRow.holds Try.pinned (OpenSpec.upto treelogStepsSpec)

/-- 'moidorelaw37.TreelogUndo', WHERE WHAT IT READS IS OF BULK AT MOST 1048576: true; the input reads as it did. -/
def treelogUndoUptoRow : OpenClaim := { program := "ythkdaoomnfgooaa", sum := "4b5ad85cfea4eefe39ecae8e53c1d7b0aed667d4ce6aed21201da3b8f45fa390", func := "moidore/moidorelaw37.TreelogUndo", spec := "treelogUndo", inPlace := ["math/bits.Add64"], recurses := true, named := ["math/bits.divideError", "math/bits.overflowError"], apart := false, narrowed := true }
def TreelogUndoUptoSaid : Prop := treelogUndoUptoRow.holds Try.pinned (OpenSpec.upto treelogUndoSpec)

/-- 'moidorelaw37.TreelogErrors', WHERE WHAT IT READS IS OF BULK AT MOST 1048576: true; the input reads as it did. -/
def treelogErrorsUptoRow : OpenClaim := { program := "ythkdaoomnfgooaa", sum := "4b5ad85cfea4eefe39ecae8e53c1d7b0aed667d4ce6aed21201da3b8f45fa390", func := "moidore/moidorelaw37.TreelogErrors", spec := "treelogErrors", inPlace := ["math/bits.Add64"], recurses := true, named := ["math/bits.divideError", "math/bits.overflowError"], apart := false, narrowed := true }
def TreelogErrorsUptoSaid : Prop := treelogErrorsUptoRow.holds Try.pinned (OpenSpec.upto treelogErrorsSpec)

/-- 'moidorelaw37.TreelogPaths', WHERE WHAT IT READS IS OF BULK AT MOST 1048576: true; the input reads as it did. -/
def treelogPathsUptoRow : OpenClaim := { program := "ythkdaoomnfgooaa", sum := "4b5ad85cfea4eefe39ecae8e53c1d7b0aed667d4ce6aed21201da3b8f45fa390", func := "moidore/moidorelaw37.TreelogPaths", spec := "treelogPaths", inPlace := ["math/bits.Add64"], named := ["math/bits.divideError", "math/bits.overflowError"], apart := false, narrowed := true }
def TreelogPathsUptoSaid : Prop := treelogPathsUptoRow.holds Try.pinned (OpenSpec.upto treelogPathsSpec)

/-- 'moidorelaw37.TreelogFrontier', WHERE WHAT IT READS IS OF BULK AT MOST 1048576: true; the input reads as it did. -/
def treelogFrontierUptoRow : OpenClaim := { program := "ythkdaoomnfgooaa", sum := "4b5ad85cfea4eefe39ecae8e53c1d7b0aed667d4ce6aed21201da3b8f45fa390", func := "moidore/moidorelaw37.TreelogFrontier", spec := "treelogFrontier", inPlace := ["math/bits.Add64"], named := ["math/bits.divideError", "math/bits.overflowError"], apart := false, narrowed := true }
def TreelogFrontierUptoSaid : Prop := treelogFrontierUptoRow.holds Try.pinned (OpenSpec.upto treelogFrontierSpec)

/-- 'moidoretop.TopTree', WHERE WHAT IT READS IS OF BULK AT MOST 1048576: true; the input reads as it did. -/
def topTreeUptoRow : OpenClaim := { program := "ythkdaoomnfgooaa", sum := "4b5ad85cfea4eefe39ecae8e53c1d7b0aed667d4ce6aed21201da3b8f45fa390", func := "moidore/moidoretop.TopTree", spec := "topTree", inPlace := ["math/bits.Add64"], named := ["math/bits.divideError", "math/bits.overflowError"], apart := false, narrowed := true }
def TopTreeUptoSaid : Prop := topTreeUptoRow.holds Try.pinned (OpenSpec.upto topTreeSpec)

end Rows
end Go.Proofs.Ythkdaoomnfgooaa
