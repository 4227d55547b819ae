/-
  No cell of these rows narrows 'for every input' (looked for: loops, veiled, ifaces, maps, wideKeys, modest, calm, conditions, laid).
  DERIVED. THE GIVEN ROWS OF THIS SEAT. 11 by the template 'for every input the law returns true; each argument reads behind the call as it read before'; 0 by the template 'total and deterministic' (their statements: YtlgjnidphldiiaaTotals.lean).
  GIVEN WITH THE SEED: the statements are not yours to turn. If you find one false, say at which input.
  Laid BY PROGRAM, IN A SANDBOX (cutbox-rows.mjs): the forced cells as the released guide's own fill.sh prints them over the translation 6b9c076c48ef5a13… (all of the seat's roots in one cut). By AI agents, Wed Nov 11 2026. No macro, syntax, notation, axiom, sorry.
-/
import Derived.Test.YtlgjnidphldiiaaChecked
import GoSem.Claim
import GoSem.ClaimJoined
import GoSem.ClaimMapViews
import Derived.JoinedTies
import Derived.KernelRfl
namespace Go.Proofs.Ytlgjnidphldiiaa
/- THE CELL 'sum', in the pinned program and in every row, IS THE sha256 OF THE DUMP (.gsa) THAT YtlgjnidphldiiaaProg.lean LOADS. Nothing in Lean hashes anything: it is a label: what it is worth is what the hold of that sum in a sandbox is worth. -/
noncomputable def Try.pinned : Pinned := { name := "ytlgjnidphldiiaa", sum := "6b9c076c48ef5a1302e50fe4e4f5cfdc6185150389763eea13997c67103d53a9", checked := Try.checked }
namespace Rows
def none {H : Type} : Left H := { results := [], args := [] }

/-- 'moidorelaw20.GadgetNew': WHATEVER THE INPUT: true; the input reads as it did. -/
def gadgetNewSpec : ChangeSpec := { name := "gadgetNew", fn := fun _ => fun
  | [d1, d2, d3] => { results := [.lit (.bool true)], args := [d1, d2, d3] }
  | _ => none }
def gadgetNewRow : OpenClaim := { program := "ytlgjnidphldiiaa", sum := "6b9c076c48ef5a1302e50fe4e4f5cfdc6185150389763eea13997c67103d53a9", func := "moidore/moidorelaw20.GadgetNew", spec := "gadgetNew", inPlace := ["math/bits.Add64"], named := ["math/bits.divideError", "math/bits.overflowError"], apart := false }
def GadgetNewSaid : Prop := gadgetNewRow.holds Try.pinned (OpenSpec.ofChange gadgetNewSpec)

/-- ITS FALSE NEIGHBOUR: 'it returns false'. Refute it at one input. -/
def gadgetNewWrong : ChangeSpec := { name := "gadgetNew", fn := fun _ => fun
  | [d1, d2, d3] => { results := [.lit (.bool false)], args := [d1, d2, d3] }
  | _ => none }
def GadgetNewWrongFalsely : Prop := gadgetNewRow.holds Try.pinned (OpenSpec.ofChange gadgetNewWrong)

/-- 'moidorelaw20.GadgetLinear': WHATEVER THE INPUT: true; the input reads as it did. -/
def gadgetLinearSpec : ChangeSpec := { name := "gadgetLinear", fn := fun _ => fun
  | [d] => { results := [.lit (.bool true)], args := [d] }
  | _ => none }
def gadgetLinearRow : OpenClaim := { program := "ytlgjnidphldiiaa", sum := "6b9c076c48ef5a1302e50fe4e4f5cfdc6185150389763eea13997c67103d53a9", func := "moidore/moidorelaw20.GadgetLinear", spec := "gadgetLinear", inPlace := ["math/bits.Add64"], named := ["math/bits.divideError", "math/bits.overflowError"], apart := false }
def GadgetLinearSaid : Prop := gadgetLinearRow.holds Try.pinned (OpenSpec.ofChange gadgetLinearSpec)

/-- ITS FALSE NEIGHBOUR: 'it returns false'. Refute it at one input. -/
def gadgetLinearWrong : ChangeSpec := { name := "gadgetLinear", fn := fun _ => fun
  | [d] => { results := [.lit (.bool false)], args := [d] }
  | _ => none }
def GadgetLinearWrongFalsely : Prop := gadgetLinearRow.holds Try.pinned (OpenSpec.ofChange gadgetLinearWrong)

/-- 'moidorelaw20.GadgetHash': WHATEVER THE INPUT: true; the input reads as it did. -/
def gadgetHashSpec : ChangeSpec := { name := "gadgetHash", fn := fun _ => fun
  | [d1, d2, d3] => { results := [.lit (.bool true)], args := [d1, d2, d3] }
  | _ => none }
def gadgetHashRow : OpenClaim := { program := "ytlgjnidphldiiaa", sum := "6b9c076c48ef5a1302e50fe4e4f5cfdc6185150389763eea13997c67103d53a9", func := "moidore/moidorelaw20.GadgetHash", spec := "gadgetHash", inPlace := ["math/bits.Add64"], named := ["math/bits.divideError", "math/bits.overflowError"], apart := false }
def GadgetHashSaid : Prop := gadgetHashRow.holds Try.pinned (OpenSpec.ofChange gadgetHashSpec)

/-- ITS FALSE NEIGHBOUR: 'it returns false'. Refute it at one input. -/
def gadgetHashWrong : ChangeSpec := { name := "gadgetHash", fn := fun _ => fun
  | [d1, d2, d3] => { results := [.lit (.bool false)], args := [d1, d2, d3] }
  | _ => none }
def GadgetHashWrongFalsely : Prop := gadgetHashRow.holds Try.pinned (OpenSpec.ofChange gadgetHashWrong)

/-- 'moidorelaw20.GadgetCircuit': WHATEVER THE INPUT: true; the input reads as it did. -/
def gadgetCircuitSpec : ChangeSpec := { name := "gadgetCircuit", fn := fun _ => fun
  | [d] => { results := [.lit (.bool true)], args := [d] }
  | _ => none }
def gadgetCircuitRow : OpenClaim := { program := "ytlgjnidphldiiaa", sum := "6b9c076c48ef5a1302e50fe4e4f5cfdc6185150389763eea13997c67103d53a9", func := "moidore/moidorelaw20.GadgetCircuit", spec := "gadgetCircuit", inPlace := ["math/bits.Add64"], unfollowed := true, recurses := true, named := ["math/bits.divideError", "math/bits.overflowError"], apart := false }
def GadgetCircuitSaid : Prop := gadgetCircuitRow.holds Try.pinned (OpenSpec.ofChange gadgetCircuitSpec)

/-- ITS FALSE NEIGHBOUR: 'it returns false'. Refute it at one input. -/
def gadgetCircuitWrong : ChangeSpec := { name := "gadgetCircuit", fn := fun _ => fun
  | [d] => { results := [.lit (.bool false)], args := [d] }
  | _ => none }
def GadgetCircuitWrongFalsely : Prop := gadgetCircuitRow.holds Try.pinned (OpenSpec.ofChange gadgetCircuitWrong)

/-- 'moidorelaw20.GadgetMeaning': WHATEVER THE INPUT: true; the input reads as it did. -/
def gadgetMeaningSpec : ChangeSpec := { name := "gadgetMeaning", fn := fun _ => fun
  | [d1, d2, d3] => { results := [.lit (.bool true)], args := [d1, d2, d3] }
  | _ => none }
def gadgetMeaningRow : OpenClaim := { program := "ytlgjnidphldiiaa", sum := "6b9c076c48ef5a1302e50fe4e4f5cfdc6185150389763eea13997c67103d53a9", func := "moidore/moidorelaw20.GadgetMeaning", spec := "gadgetMeaning", inPlace := ["math/bits.Add64"], unfollowed := true, recurses := true, named := ["math/bits.divideError", "math/bits.overflowError"], apart := false }
def GadgetMeaningSaid : Prop := gadgetMeaningRow.holds Try.pinned (OpenSpec.ofChange gadgetMeaningSpec)

/-- ITS FALSE NEIGHBOUR: 'it returns false'. Refute it at one input. -/
def gadgetMeaningWrong : ChangeSpec := { name := "gadgetMeaning", fn := fun _ => fun
  | [d1, d2, d3] => { results := [.lit (.bool false)], args := [d1, d2, d3] }
  | _ => none }
def GadgetMeaningWrongFalsely : Prop := gadgetMeaningRow.holds Try.pinned (OpenSpec.ofChange gadgetMeaningWrong)

/-- 'moidorelaw20.GadgetUnique': WHATEVER THE INPUT: true; the input reads as it did. -/
def gadgetUniqueSpec : ChangeSpec := { name := "gadgetUnique", fn := fun _ => fun
  | [d1, d2, d3] => { results := [.lit (.bool true)], args := [d1, d2, d3] }
  | _ => none }
def gadgetUniqueRow : OpenClaim := { program := "ytlgjnidphldiiaa", sum := "6b9c076c48ef5a1302e50fe4e4f5cfdc6185150389763eea13997c67103d53a9", func := "moidore/moidorelaw20.GadgetUnique", spec := "gadgetUnique", inPlace := ["math/bits.Add64"], unfollowed := true, recurses := true, named := ["math/bits.divideError", "math/bits.overflowError"], apart := false }
def GadgetUniqueSaid : Prop := gadgetUniqueRow.holds Try.pinned (OpenSpec.ofChange gadgetUniqueSpec)

/-- ITS FALSE NEIGHBOUR: 'it returns false'. Refute it at one input. -/
def gadgetUniqueWrong : ChangeSpec := { name := "gadgetUnique", fn := fun _ => fun
  | [d1, d2, d3] => { results := [.lit (.bool false)], args := [d1, d2, d3] }
  | _ => none }
def GadgetUniqueWrongFalsely : Prop := gadgetUniqueRow.holds Try.pinned (OpenSpec.ofChange gadgetUniqueWrong)

/-- 'moidorelaw20.GadgetRange': WHATEVER THE INPUT: true; the input reads as it did. -/
def gadgetRangeSpec : ChangeSpec := { name := "gadgetRange", fn := fun _ => fun
  | [d1, d2, d3] => { results := [.lit (.bool true)], args := [d1, d2, d3] }
  | _ => none }
def gadgetRangeRow : OpenClaim := { program := "ytlgjnidphldiiaa", sum := "6b9c076c48ef5a1302e50fe4e4f5cfdc6185150389763eea13997c67103d53a9", func := "moidore/moidorelaw20.GadgetRange", spec := "gadgetRange", inPlace := ["math/bits.Add64"], unfollowed := true, recurses := true, named := ["math/bits.divideError", "math/bits.overflowError"], apart := false }
def GadgetRangeSaid : Prop := gadgetRangeRow.holds Try.pinned (OpenSpec.ofChange gadgetRangeSpec)

/-- ITS FALSE NEIGHBOUR: 'it returns false'. Refute it at one input. -/
def gadgetRangeWrong : ChangeSpec := { name := "gadgetRange", fn := fun _ => fun
  | [d1, d2, d3] => { results := [.lit (.bool false)], args := [d1, d2, d3] }
  | _ => none }
def GadgetRangeWrongFalsely : Prop := gadgetRangeRow.holds Try.pinned (OpenSpec.ofChange gadgetRangeWrong)

/-- 'moidorelaw23.ExhaustiveCount': WHATEVER THE INPUT: true; the input reads as it did. -/
def exhaustiveCountSpec : ChangeSpec := { name := "exhaustiveCount", fn := fun _ => fun
  | [d1, d2, d3] => { results := [.lit (.bool true)], args := [d1, d2, d3] }
  | _ => none }
def exhaustiveCountRow : OpenClaim := { program := "ytlgjnidphldiiaa", sum := "6b9c076c48ef5a1302e50fe4e4f5cfdc6185150389763eea13997c67103d53a9", func := "moidore/moidorelaw23.ExhaustiveCount", spec := "exhaustiveCount", inPlace := ["math/bits.Add64"], unfollowed := true, recurses := true, named := ["math/bits.divideError", "math/bits.overflowError"], apart := false }
def ExhaustiveCountSaid : Prop := exhaustiveCountRow.holds Try.pinned (OpenSpec.ofChange exhaustiveCountSpec)

/-- ITS FALSE NEIGHBOUR: 'it returns false'. Refute it at one input. -/
def exhaustiveCountWrong : ChangeSpec := { name := "exhaustiveCount", fn := fun _ => fun
  | [d1, d2, d3] => { results := [.lit (.bool false)], args := [d1, d2, d3] }
  | _ => none }
def ExhaustiveCountWrongFalsely : Prop := exhaustiveCountRow.holds Try.pinned (OpenSpec.ofChange exhaustiveCountWrong)

/-- 'moidorelaw23.ExhaustiveSum': WHATEVER THE INPUT: true; the input reads as it did. -/
def exhaustiveSumSpec : ChangeSpec := { name := "exhaustiveSum", fn := fun _ => fun
  | [d1, d2] => { results := [.lit (.bool true)], args := [d1, d2] }
  | _ => none }
def exhaustiveSumRow : OpenClaim := { program := "ytlgjnidphldiiaa", sum := "6b9c076c48ef5a1302e50fe4e4f5cfdc6185150389763eea13997c67103d53a9", func := "moidore/moidorelaw23.ExhaustiveSum", spec := "exhaustiveSum", inPlace := ["math/bits.Add64"], unfollowed := true, recurses := true, named := ["math/bits.divideError", "math/bits.overflowError"], apart := false }
def ExhaustiveSumSaid : Prop := exhaustiveSumRow.holds Try.pinned (OpenSpec.ofChange exhaustiveSumSpec)

/-- ITS FALSE NEIGHBOUR: 'it returns false'. Refute it at one input. -/
def exhaustiveSumWrong : ChangeSpec := { name := "exhaustiveSum", fn := fun _ => fun
  | [d1, d2] => { results := [.lit (.bool false)], args := [d1, d2] }
  | _ => none }
def ExhaustiveSumWrongFalsely : Prop := exhaustiveSumRow.holds Try.pinned (OpenSpec.ofChange exhaustiveSumWrong)

/-- 'moidorelaw23.ExhaustiveInputs': WHATEVER THE INPUT: true; the input reads as it did. -/
def exhaustiveInputsSpec : ChangeSpec := { name := "exhaustiveInputs", fn := fun _ => fun
  | [d1, d2] => { results := [.lit (.bool true)], args := [d1, d2] }
  | _ => none }
def exhaustiveInputsRow : OpenClaim := { program := "ytlgjnidphldiiaa", sum := "6b9c076c48ef5a1302e50fe4e4f5cfdc6185150389763eea13997c67103d53a9", func := "moidore/moidorelaw23.ExhaustiveInputs", spec := "exhaustiveInputs", inPlace := ["math/bits.Add64"], unfollowed := true, recurses := true, named := ["math/bits.divideError", "math/bits.overflowError"], apart := false }
def ExhaustiveInputsSaid : Prop := exhaustiveInputsRow.holds Try.pinned (OpenSpec.ofChange exhaustiveInputsSpec)

/-- ITS FALSE NEIGHBOUR: 'it returns false'. Refute it at one input. -/
def exhaustiveInputsWrong : ChangeSpec := { name := "exhaustiveInputs", fn := fun _ => fun
  | [d1, d2] => { results := [.lit (.bool false)], args := [d1, d2] }
  | _ => none }
def ExhaustiveInputsWrongFalsely : Prop := exhaustiveInputsRow.holds Try.pinned (OpenSpec.ofChange exhaustiveInputsWrong)

/-- 'moidorelaw23.ExhaustiveCircuit': WHATEVER THE INPUT: true; the input reads as it did. -/
def exhaustiveCircuitSpec : ChangeSpec := { name := "exhaustiveCircuit", fn := fun _ => fun
  | [d1, d2] => { results := [.lit (.bool true)], args := [d1, d2] }
  | _ => none }
def exhaustiveCircuitRow : OpenClaim := { program := "ytlgjnidphldiiaa", sum := "6b9c076c48ef5a1302e50fe4e4f5cfdc6185150389763eea13997c67103d53a9", func := "moidore/moidorelaw23.ExhaustiveCircuit", spec := "exhaustiveCircuit", inPlace := ["math/bits.Add64"], unfollowed := true, recurses := true, named := ["math/bits.divideError", "math/bits.overflowError"], apart := false }
def ExhaustiveCircuitSaid : Prop := exhaustiveCircuitRow.holds Try.pinned (OpenSpec.ofChange exhaustiveCircuitSpec)

/-- ITS FALSE NEIGHBOUR: 'it returns false'. Refute it at one input. -/
def exhaustiveCircuitWrong : ChangeSpec := { name := "exhaustiveCircuit", fn := fun _ => fun
  | [d1, d2] => { results := [.lit (.bool false)], args := [d1, d2] }
  | _ => none }
def ExhaustiveCircuitWrongFalsely : Prop := exhaustiveCircuitRow.holds Try.pinned (OpenSpec.ofChange exhaustiveCircuitWrong)

/- THE SECOND FORM. 'bulk': how many values and letters a reading holds, each counted each time it is reached (what is shared counts as often as it is met; a slice's spare places count too). A statement '..UptoSaid' is the law's where the arguments, and the package variables that the reading takes, are together of bulk at most 1048576: NARROWER than '..Said'. Prove '..Said' where nothing that the law and all that it calls make is longer than what came in: it says more and counts as full. Else prove '..UptoSaid'. A law counts once. -/
mutual
def uptoBulk {H : Type} : DataW H → Nat
  | .lit (.string bytes) => bytes.length + 1
  | .lit _ => 1
  | .nil => 1
  | .ptr d => uptoBulk d + 1
  | .slice elems spare => uptoBulkAll elems + uptoBulkAll spare + 1
  | .agg parts => uptoBulkAll parts + 1
  | .iface _ d => uptoBulk d + 1
  | .map entries => uptoBulkEntries entries + 1
  | .held _ => 1
def uptoBulkAll {H : Type} : List (DataW H) → Nat
  | [] => 0
  | d :: r => uptoBulk d + uptoBulkAll r
def uptoBulkEntries {H : Type} : List (Lit × DataW H) → Nat
  | [] => 0
  | x :: r => uptoBulkEntry x + uptoBulkEntries r
def uptoBulkEntry {H : Type} : Lit × DataW H → Nat
  | (.string bytes, d) => bytes.length + uptoBulk d + 1
  | (_, d) => uptoBulk d + 1
 end
def uptoSmall : (H : Type) → List (DataW H) → Bool := fun _ ds => decide (uptoBulkAll ds ≤ 1048576)
def OpenSpec.upto (s : _root_.Go.ChangeSpec) : _root_.Go.OpenSpec := { _root_.Go.OpenSpec.ofChange s with cond := some uptoSmall }

/-- 'moidorelaw20.GadgetNew', WHERE WHAT IT READS IS OF BULK AT MOST 1048576: true; the input reads as it did. -/
def gadgetNewUptoRow : OpenClaim := { program := "ytlgjnidphldiiaa", sum := "6b9c076c48ef5a1302e50fe4e4f5cfdc6185150389763eea13997c67103d53a9", func := "moidore/moidorelaw20.GadgetNew", spec := "gadgetNew", inPlace := ["math/bits.Add64"], named := ["math/bits.divideError", "math/bits.overflowError"], apart := false, narrowed := true }
def GadgetNewUptoSaid : Prop := gadgetNewUptoRow.holds Try.pinned (OpenSpec.upto gadgetNewSpec)

/-- 'moidorelaw20.GadgetLinear', WHERE WHAT IT READS IS OF BULK AT MOST 1048576: true; the input reads as it did. -/
def gadgetLinearUptoRow : OpenClaim := { program := "ytlgjnidphldiiaa", sum := "6b9c076c48ef5a1302e50fe4e4f5cfdc6185150389763eea13997c67103d53a9", func := "moidore/moidorelaw20.GadgetLinear", spec := "gadgetLinear", inPlace := ["math/bits.Add64"], named := ["math/bits.divideError", "math/bits.overflowError"], apart := false, narrowed := true }
def GadgetLinearUptoSaid : Prop := gadgetLinearUptoRow.holds Try.pinned (OpenSpec.upto gadgetLinearSpec)

/-- 'moidorelaw20.GadgetHash', WHERE WHAT IT READS IS OF BULK AT MOST 1048576: true; the input reads as it did. -/
def gadgetHashUptoRow : OpenClaim := { program := "ytlgjnidphldiiaa", sum := "6b9c076c48ef5a1302e50fe4e4f5cfdc6185150389763eea13997c67103d53a9", func := "moidore/moidorelaw20.GadgetHash", spec := "gadgetHash", inPlace := ["math/bits.Add64"], named := ["math/bits.divideError", "math/bits.overflowError"], apart := false, narrowed := true }
def GadgetHashUptoSaid : Prop := gadgetHashUptoRow.holds Try.pinned (OpenSpec.upto gadgetHashSpec)

/-- 'moidorelaw20.GadgetCircuit', WHERE WHAT IT READS IS OF BULK AT MOST 1048576: true; the input reads as it did. -/
def gadgetCircuitUptoRow : OpenClaim := { program := "ytlgjnidphldiiaa", sum := "6b9c076c48ef5a1302e50fe4e4f5cfdc6185150389763eea13997c67103d53a9", func := "moidore/moidorelaw20.GadgetCircuit", spec := "gadgetCircuit", inPlace := ["math/bits.Add64"], unfollowed := true, recurses := true, named := ["math/bits.divideError", "math/bits.overflowError"], apart := false, narrowed := true }
def GadgetCircuitUptoSaid : Prop := gadgetCircuitUptoRow.holds Try.pinned (OpenSpec.upto gadgetCircuitSpec)

/-- 'moidorelaw20.GadgetMeaning', WHERE WHAT IT READS IS OF BULK AT MOST 1048576: true; the input reads as it did. -/
def gadgetMeaningUptoRow : OpenClaim := { program := "ytlgjnidphldiiaa", sum := "6b9c076c48ef5a1302e50fe4e4f5cfdc6185150389763eea13997c67103d53a9", func := "moidore/moidorelaw20.GadgetMeaning", spec := "gadgetMeaning", inPlace := ["math/bits.Add64"], unfollowed := true, recurses := true, named := ["math/bits.divideError", "math/bits.overflowError"], apart := false, narrowed := true }
def GadgetMeaningUptoSaid : Prop := gadgetMeaningUptoRow.holds Try.pinned (OpenSpec.upto gadgetMeaningSpec)

/-- 'moidorelaw20.GadgetUnique', WHERE WHAT IT READS IS OF BULK AT MOST 1048576: true; the input reads as it did. -/
def gadgetUniqueUptoRow : OpenClaim := { program := "ytlgjnidphldiiaa", sum := "6b9c076c48ef5a1302e50fe4e4f5cfdc6185150389763eea13997c67103d53a9", func := "moidore/moidorelaw20.GadgetUnique", spec := "gadgetUnique", inPlace := ["math/bits.Add64"], unfollowed := true, recurses := true, named := ["math/bits.divideError", "math/bits.overflowError"], apart := false, narrowed := true }
def GadgetUniqueUptoSaid : Prop := gadgetUniqueUptoRow.holds Try.pinned (OpenSpec.upto gadgetUniqueSpec)

/-- 'moidorelaw20.GadgetRange', WHERE WHAT IT READS IS OF BULK AT MOST 1048576: true; the input reads as it did. -/
def gadgetRangeUptoRow : OpenClaim := { program := "ytlgjnidphldiiaa", sum := "6b9c076c48ef5a1302e50fe4e4f5cfdc6185150389763eea13997c67103d53a9", func := "moidore/moidorelaw20.GadgetRange", spec := "gadgetRange", inPlace := ["math/bits.Add64"], unfollowed := true, recurses := true, named := ["math/bits.divideError", "math/bits.overflowError"], apart := false, narrowed := true }
def GadgetRangeUptoSaid : Prop := gadgetRangeUptoRow.holds Try.pinned (OpenSpec.upto gadgetRangeSpec)

/-- 'moidorelaw23.ExhaustiveCount', WHERE WHAT IT READS IS OF BULK AT MOST 1048576: true; the input reads as it did. -/
def exhaustiveCountUptoRow : OpenClaim := { program := "ytlgjnidphldiiaa", sum := "6b9c076c48ef5a1302e50fe4e4f5cfdc6185150389763eea13997c67103d53a9", func := "moidore/moidorelaw23.ExhaustiveCount", spec := "exhaustiveCount", inPlace := ["math/bits.Add64"], unfollowed := true, recurses := true, named := ["math/bits.divideError", "math/bits.overflowError"], apart := false, narrowed := true }
def ExhaustiveCountUptoSaid : Prop := exhaustiveCountUptoRow.holds Try.pinned (OpenSpec.upto exhaustiveCountSpec)

/-- 'moidorelaw23.ExhaustiveSum', WHERE WHAT IT READS IS OF BULK AT MOST 1048576: true; the input reads as it did. -/
def exhaustiveSumUptoRow : OpenClaim := { program := "ytlgjnidphldiiaa", sum := "6b9c076c48ef5a1302e50fe4e4f5cfdc6185150389763eea13997c67103d53a9", func := "moidore/moidorelaw23.ExhaustiveSum", spec := "exhaustiveSum", inPlace := ["math/bits.Add64"], unfollowed := true, recurses := true, named := ["math/bits.divideError", "math/bits.overflowError"], apart := false, narrowed := true }
def ExhaustiveSumUptoSaid : Prop := exhaustiveSumUptoRow.holds Try.pinned (OpenSpec.upto exhaustiveSumSpec)

/-- 'moidorelaw23.ExhaustiveInputs', WHERE WHAT IT READS IS OF BULK AT MOST 1048576: true; the input reads as it did. -/
def exhaustiveInputsUptoRow : OpenClaim := { program := "ytlgjnidphldiiaa", sum := "6b9c076c48ef5a1302e50fe4e4f5cfdc6185150389763eea13997c67103d53a9", func := "moidore/moidorelaw23.ExhaustiveInputs", spec := "exhaustiveInputs", inPlace := ["math/bits.Add64"], unfollowed := true, recurses := true, named := ["math/bits.divideError", "math/bits.overflowError"], apart := false, narrowed := true }
def ExhaustiveInputsUptoSaid : Prop := exhaustiveInputsUptoRow.holds Try.pinned (OpenSpec.upto exhaustiveInputsSpec)

/-- 'moidorelaw23.ExhaustiveCircuit', WHERE WHAT IT READS IS OF BULK AT MOST 1048576: true; the input reads as it did. -/
def exhaustiveCircuitUptoRow : OpenClaim := { program := "ytlgjnidphldiiaa", sum := "6b9c076c48ef5a1302e50fe4e4f5cfdc6185150389763eea13997c67103d53a9", func := "moidore/moidorelaw23.ExhaustiveCircuit", spec := "exhaustiveCircuit", inPlace := ["math/bits.Add64"], unfollowed := true, recurses := true, named := ["math/bits.divideError", "math/bits.overflowError"], apart := false, narrowed := true }
def ExhaustiveCircuitUptoSaid : Prop := exhaustiveCircuitUptoRow.holds Try.pinned (OpenSpec.upto exhaustiveCircuitSpec)

end Rows
end Go.Proofs.Ytlgjnidphldiiaa
