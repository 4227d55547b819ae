/-
  No cell of these rows narrows 'for every input' (looked for: loops, veiled, ifaces, maps, wideKeys, modest, calm, conditions, laid).
  DERIVED. THE GIVEN ROWS OF THIS SEAT. 7 by the template 'for every input the law returns true; each argument reads behind the call as it read before'; 0 by the template 'total and deterministic' (their statements: YtlflkddgdbdebaaTotals.lean).
  GIVEN WITH THE SEED: the statements are not yours to turn. If you find one false, say at which input.
  Laid BY PROGRAM, IN A SANDBOX (cutbox-rows.mjs): the forced cells as the released guide's own fill.sh prints them over the translation 760b4f5250fcf54d… (all of the seat's roots in one cut). By AI agents, Wed Nov 11 2026. No macro, syntax, notation, axiom, sorry.
-/
import Derived.Test.YtlflkddgdbdebaaChecked
import GoSem.Claim
import GoSem.ClaimJoined
import GoSem.ClaimMapViews
import Derived.JoinedTies
import Derived.KernelRfl
namespace Go.Proofs.Ytlflkddgdbdebaa
/- THE CELL 'sum', in the pinned program and in every row, IS THE sha256 OF THE DUMP (.gsa) THAT YtlflkddgdbdebaaProg.lean LOADS. Nothing in Lean hashes anything: it is a label: what it is worth is what the hold of that sum in a sandbox is worth. -/
noncomputable def Try.pinned : Pinned := { name := "ytlflkddgdbdebaa", sum := "760b4f5250fcf54dee2678067187a52416e9508c9a175bf038339d88e8909e5b", checked := Try.checked }
namespace Rows
def none {H : Type} : Left H := { results := [], args := [] }

/-- 'moidorelaw22.AssignValid': WHATEVER THE INPUT: true; the input reads as it did. -/
def assignValidSpec : ChangeSpec := { name := "assignValid", fn := fun _ => fun
  | [d] => { results := [.lit (.bool true)], args := [d] }
  | _ => none }
def assignValidRow : OpenClaim := { program := "ytlflkddgdbdebaa", sum := "760b4f5250fcf54dee2678067187a52416e9508c9a175bf038339d88e8909e5b", func := "moidore/moidorelaw22.AssignValid", spec := "assignValid", inPlace := ["math/bits.Add64"], named := ["math/bits.divideError", "math/bits.overflowError"], apart := false }
def AssignValidSaid : Prop := assignValidRow.holds Try.pinned (OpenSpec.ofChange assignValidSpec)

/-- ITS FALSE NEIGHBOUR: 'it returns false'. Refute it at one input. -/
def assignValidWrong : ChangeSpec := { name := "assignValid", fn := fun _ => fun
  | [d] => { results := [.lit (.bool false)], args := [d] }
  | _ => none }
def AssignValidWrongFalsely : Prop := assignValidRow.holds Try.pinned (OpenSpec.ofChange assignValidWrong)

/-- 'moidorelaw22.AssignRun': WHATEVER THE INPUT: true; the input reads as it did. -/
def assignRunSpec : ChangeSpec := { name := "assignRun", fn := fun _ => fun
  | [d1, d2, d3] => { results := [.lit (.bool true)], args := [d1, d2, d3] }
  | _ => none }
def assignRunRow : OpenClaim := { program := "ytlflkddgdbdebaa", sum := "760b4f5250fcf54dee2678067187a52416e9508c9a175bf038339d88e8909e5b", func := "moidore/moidorelaw22.AssignRun", spec := "assignRun", inPlace := ["math/bits.Add64"], named := ["math/bits.divideError", "math/bits.overflowError"], apart := false }
def AssignRunSaid : Prop := assignRunRow.holds Try.pinned (OpenSpec.ofChange assignRunSpec)

/-- ITS FALSE NEIGHBOUR: 'it returns false'. Refute it at one input. -/
def assignRunWrong : ChangeSpec := { name := "assignRun", fn := fun _ => fun
  | [d1, d2, d3] => { results := [.lit (.bool false)], args := [d1, d2, d3] }
  | _ => none }
def AssignRunWrongFalsely : Prop := assignRunRow.holds Try.pinned (OpenSpec.ofChange assignRunWrong)

/-- 'moidorelaw22.AssignSatisfy': WHATEVER THE INPUT: true; the input reads as it did. -/
def assignSatisfySpec : ChangeSpec := { name := "assignSatisfy", fn := fun _ => fun
  | [d1, d2, d3] => { results := [.lit (.bool true)], args := [d1, d2, d3] }
  | _ => none }
def assignSatisfyRow : OpenClaim := { program := "ytlflkddgdbdebaa", sum := "760b4f5250fcf54dee2678067187a52416e9508c9a175bf038339d88e8909e5b", func := "moidore/moidorelaw22.AssignSatisfy", spec := "assignSatisfy", inPlace := ["math/bits.Add64"], named := ["math/bits.divideError", "math/bits.overflowError"], apart := false }
def AssignSatisfySaid : Prop := assignSatisfyRow.holds Try.pinned (OpenSpec.ofChange assignSatisfySpec)

/-- ITS FALSE NEIGHBOUR: 'it returns false'. Refute it at one input. -/
def assignSatisfyWrong : ChangeSpec := { name := "assignSatisfy", fn := fun _ => fun
  | [d1, d2, d3] => { results := [.lit (.bool false)], args := [d1, d2, d3] }
  | _ => none }
def AssignSatisfyWrongFalsely : Prop := assignSatisfyRow.holds Try.pinned (OpenSpec.ofChange assignSatisfyWrong)

/-- 'moidorelaw22.AssignHints': WHATEVER THE INPUT: true; the input reads as it did. -/
def assignHintsSpec : ChangeSpec := { name := "assignHints", fn := fun _ => fun
  | [d1, d2, d3] => { results := [.lit (.bool true)], args := [d1, d2, d3] }
  | _ => none }
def assignHintsRow : OpenClaim := { program := "ytlflkddgdbdebaa", sum := "760b4f5250fcf54dee2678067187a52416e9508c9a175bf038339d88e8909e5b", func := "moidore/moidorelaw22.AssignHints", spec := "assignHints", inPlace := ["math/bits.Add64"], named := ["math/bits.divideError", "math/bits.overflowError"], apart := false }
def AssignHintsSaid : Prop := assignHintsRow.holds Try.pinned (OpenSpec.ofChange assignHintsSpec)

/-- ITS FALSE NEIGHBOUR: 'it returns false'. Refute it at one input. -/
def assignHintsWrong : ChangeSpec := { name := "assignHints", fn := fun _ => fun
  | [d1, d2, d3] => { results := [.lit (.bool false)], args := [d1, d2, d3] }
  | _ => none }
def AssignHintsWrongFalsely : Prop := assignHintsRow.holds Try.pinned (OpenSpec.ofChange assignHintsWrong)

/-- 'moidorelaw22.AssignCut': WHATEVER THE INPUT: true; the input reads as it did. -/
def assignCutSpec : ChangeSpec := { name := "assignCut", fn := fun _ => fun
  | [d1, d2, d3] => { results := [.lit (.bool true)], args := [d1, d2, d3] }
  | _ => none }
def assignCutRow : OpenClaim := { program := "ytlflkddgdbdebaa", sum := "760b4f5250fcf54dee2678067187a52416e9508c9a175bf038339d88e8909e5b", func := "moidore/moidorelaw22.AssignCut", spec := "assignCut", inPlace := ["math/bits.Add64"], named := ["math/bits.divideError", "math/bits.overflowError"], apart := false }
def AssignCutSaid : Prop := assignCutRow.holds Try.pinned (OpenSpec.ofChange assignCutSpec)

/-- ITS FALSE NEIGHBOUR: 'it returns false'. Refute it at one input. -/
def assignCutWrong : ChangeSpec := { name := "assignCut", fn := fun _ => fun
  | [d1, d2, d3] => { results := [.lit (.bool false)], args := [d1, d2, d3] }
  | _ => none }
def AssignCutWrongFalsely : Prop := assignCutRow.holds Try.pinned (OpenSpec.ofChange assignCutWrong)

/-- 'moidorelaw22.AssignRequires': WHATEVER THE INPUT: true; the input reads as it did. -/
def assignRequiresSpec : ChangeSpec := { name := "assignRequires", fn := fun _ => fun
  | [d1, d2, d3] => { results := [.lit (.bool true)], args := [d1, d2, d3] }
  | _ => none }
def assignRequiresRow : OpenClaim := { program := "ytlflkddgdbdebaa", sum := "760b4f5250fcf54dee2678067187a52416e9508c9a175bf038339d88e8909e5b", func := "moidore/moidorelaw22.AssignRequires", spec := "assignRequires", inPlace := ["math/bits.Add64"], unfollowed := true, recurses := true, named := ["math/bits.divideError", "math/bits.overflowError"], apart := false }
def AssignRequiresSaid : Prop := assignRequiresRow.holds Try.pinned (OpenSpec.ofChange assignRequiresSpec)

/-- ITS FALSE NEIGHBOUR: 'it returns false'. Refute it at one input. -/
def assignRequiresWrong : ChangeSpec := { name := "assignRequires", fn := fun _ => fun
  | [d1, d2, d3] => { results := [.lit (.bool false)], args := [d1, d2, d3] }
  | _ => none }
def AssignRequiresWrongFalsely : Prop := assignRequiresRow.holds Try.pinned (OpenSpec.ofChange assignRequiresWrong)

/-- 'moidorelaw22.AssignGadgets': WHATEVER THE INPUT: true; the input reads as it did. -/
def assignGadgetsSpec : ChangeSpec := { name := "assignGadgets", fn := fun _ => fun
  | [d1, d2, d3] => { results := [.lit (.bool true)], args := [d1, d2, d3] }
  | _ => none }
def assignGadgetsRow : OpenClaim := { program := "ytlflkddgdbdebaa", sum := "760b4f5250fcf54dee2678067187a52416e9508c9a175bf038339d88e8909e5b", func := "moidore/moidorelaw22.AssignGadgets", spec := "assignGadgets", inPlace := ["math/bits.Add64"], named := ["math/bits.divideError", "math/bits.overflowError"], apart := false }
def AssignGadgetsSaid : Prop := assignGadgetsRow.holds Try.pinned (OpenSpec.ofChange assignGadgetsSpec)

/-- ITS FALSE NEIGHBOUR: 'it returns false'. Refute it at one input. -/
def assignGadgetsWrong : ChangeSpec := { name := "assignGadgets", fn := fun _ => fun
  | [d1, d2, d3] => { results := [.lit (.bool false)], args := [d1, d2, d3] }
  | _ => none }
def AssignGadgetsWrongFalsely : Prop := assignGadgetsRow.holds Try.pinned (OpenSpec.ofChange assignGadgetsWrong)

/- THE SECOND FORM. 'bulk': how many values and letters a reading holds, each counted each time it is reached (what is shared counts as often as it is met; a slice's spare places count too). A statement '..UptoSaid' is the law's where the arguments, and the package variables that the reading takes, are together of bulk at most 1048576: NARROWER than '..Said'. Prove '..Said' where nothing that the law and all that it calls make is longer than what came in: it says more and counts as full. Else prove '..UptoSaid'. A law counts once. -/
mutual
def uptoBulk {H : Type} : DataW H → Nat
  | .lit (.string bytes) => bytes.length + 1
  | .lit _ => 1
  | .nil => 1
  | .ptr d => uptoBulk d + 1
  | .slice elems spare => uptoBulkAll elems + uptoBulkAll spare + 1
  | .agg parts => uptoBulkAll parts + 1
  | .iface _ d => uptoBulk d + 1
  | .map entries => uptoBulkEntries entries + 1
  | .held _ => 1
def uptoBulkAll {H : Type} : List (DataW H) → Nat
  | [] => 0
  | d :: r => uptoBulk d + uptoBulkAll r
def uptoBulkEntries {H : Type} : List (Lit × DataW H) → Nat
  | [] => 0
  | x :: r => uptoBulkEntry x + uptoBulkEntries r
def uptoBulkEntry {H : Type} : Lit × DataW H → Nat
  | (.string bytes, d) => bytes.length + uptoBulk d + 1
  | (_, d) => uptoBulk d + 1
 end
def uptoSmall : (H : Type) → List (DataW H) → Bool := fun _ ds => decide (uptoBulkAll ds ≤ 1048576)
def OpenSpec.upto (s : _root_.Go.ChangeSpec) : _root_.Go.OpenSpec := { _root_.Go.OpenSpec.ofChange s with cond := some uptoSmall }

/-- 'moidorelaw22.AssignValid', WHERE WHAT IT READS IS OF BULK AT MOST 1048576: true; the input reads as it did. -/
def assignValidUptoRow : OpenClaim := { program := "ytlflkddgdbdebaa", sum := "760b4f5250fcf54dee2678067187a52416e9508c9a175bf038339d88e8909e5b", func := "moidore/moidorelaw22.AssignValid", spec := "assignValid", inPlace := ["math/bits.Add64"], named := ["math/bits.divideError", "math/bits.overflowError"], apart := false, narrowed := true }
def AssignValidUptoSaid : Prop := assignValidUptoRow.holds Try.pinned (OpenSpec.upto assignValidSpec)

/-- 'moidorelaw22.AssignRun', WHERE WHAT IT READS IS OF BULK AT MOST 1048576: true; the input reads as it did. -/
def assignRunUptoRow : OpenClaim := { program := "ytlflkddgdbdebaa", sum := "760b4f5250fcf54dee2678067187a52416e9508c9a175bf038339d88e8909e5b", func := "moidore/moidorelaw22.AssignRun", spec := "assignRun", inPlace := ["math/bits.Add64"], named := ["math/bits.divideError", "math/bits.overflowError"], apart := false, narrowed := true }
def AssignRunUptoSaid : Prop := assignRunUptoRow.holds Try.pinned (OpenSpec.upto assignRunSpec)

/-- 'moidorelaw22.AssignSatisfy', WHERE WHAT IT READS IS OF BULK AT MOST 1048576: true; the input reads as it did. -/
def assignSatisfyUptoRow : OpenClaim := { program := "ytlflkddgdbdebaa", sum := "760b4f5250fcf54dee2678067187a52416e9508c9a175bf038339d88e8909e5b", func := "moidore/moidorelaw22.AssignSatisfy", spec := "assignSatisfy", inPlace := ["math/bits.Add64"], named := ["math/bits.divideError", "math/bits.overflowError"], apart := false, narrowed := true }
def AssignSatisfyUptoSaid : Prop := assignSatisfyUptoRow.holds Try.pinned (OpenSpec.upto assignSatisfySpec)

/-- 'moidorelaw22.AssignHints', WHERE WHAT IT READS IS OF BULK AT MOST 1048576: true; the input reads as it did. -/
def assignHintsUptoRow : OpenClaim := { program := "ytlflkddgdbdebaa", sum := "760b4f5250fcf54dee2678067187a52416e9508c9a175bf038339d88e8909e5b", func := "moidore/moidorelaw22.AssignHints", spec := "assignHints", inPlace := ["math/bits.Add64"], named := ["math/bits.divideError", "math/bits.overflowError"], apart := false, narrowed := true }
def AssignHintsUptoSaid : Prop := assignHintsUptoRow.holds Try.pinned (OpenSpec.upto assignHintsSpec)

/-- 'moidorelaw22.AssignCut', WHERE WHAT IT READS IS OF BULK AT MOST 1048576: true; the input reads as it did. -/
def assignCutUptoRow : OpenClaim := { program := "ytlflkddgdbdebaa", sum := "760b4f5250fcf54dee2678067187a52416e9508c9a175bf038339d88e8909e5b", func := "moidore/moidorelaw22.AssignCut", spec := "assignCut", inPlace := ["math/bits.Add64"], named := ["math/bits.divideError", "math/bits.overflowError"], apart := false, narrowed := true }
def AssignCutUptoSaid : Prop := assignCutUptoRow.holds Try.pinned (OpenSpec.upto assignCutSpec)

/-- 'moidorelaw22.AssignRequires', WHERE WHAT IT READS IS OF BULK AT MOST 1048576: true; the input reads as it did. -/
def assignRequiresUptoRow : OpenClaim := { program := "ytlflkddgdbdebaa", sum := "760b4f5250fcf54dee2678067187a52416e9508c9a175bf038339d88e8909e5b", func := "moidore/moidorelaw22.AssignRequires", spec := "assignRequires", inPlace := ["math/bits.Add64"], unfollowed := true, recurses := true, named := ["math/bits.divideError", "math/bits.overflowError"], apart := false, narrowed := true }
def AssignRequiresUptoSaid : Prop := assignRequiresUptoRow.holds Try.pinned (OpenSpec.upto assignRequiresSpec)

/-- 'moidorelaw22.AssignGadgets', WHERE WHAT IT READS IS OF BULK AT MOST 1048576: true; the input reads as it did. -/
def assignGadgetsUptoRow : OpenClaim := { program := "ytlflkddgdbdebaa", sum := "760b4f5250fcf54dee2678067187a52416e9508c9a175bf038339d88e8909e5b", func := "moidore/moidorelaw22.AssignGadgets", spec := "assignGadgets", inPlace := ["math/bits.Add64"], named := ["math/bits.divideError", "math/bits.overflowError"], apart := false, narrowed := true }
def AssignGadgetsUptoSaid : Prop := assignGadgetsUptoRow.holds Try.pinned (OpenSpec.upto assignGadgetsSpec)

end Rows
end Go.Proofs.Ytlflkddgdbdebaa
