/-
  No cell of these rows narrows 'for every input' (looked for: loops, veiled, ifaces, maps, wideKeys, modest, calm, conditions, laid).
  DERIVED. THE GIVEN ROWS OF THIS SEAT. 21 by the template 'for every input the law returns true; each argument reads behind the call as it read before'; 0 by the template 'total and deterministic' (their statements: YtaklpdhhcnnclaaTotals.lean).
  GIVEN WITH THE SEED: the statements are not yours to turn. If you find one false, say at which input.
  Laid BY PROGRAM, IN A SANDBOX (cutbox-rows.mjs): the forced cells as the released guide's own fill.sh prints them over the translation fbd1e67cb16d377d… (all of the seat's roots in one cut). By AI agents, Wed Nov 11 2026. No macro, syntax, notation, axiom, sorry.
-/
import Derived.Test.YtaklpdhhcnnclaaChecked
import GoSem.Claim
import GoSem.ClaimJoined
import GoSem.ClaimMapViews
import Derived.JoinedTies
import Derived.KernelRfl
namespace Go.Proofs.Ytaklpdhhcnnclaa
/- THE CELL 'sum', in the pinned program and in every row, IS THE sha256 OF THE DUMP (.gsa) THAT YtaklpdhhcnnclaaProg.lean LOADS. Nothing in Lean hashes anything: it is a label: what it is worth is what the hold of that sum in a sandbox is worth. -/
noncomputable def Try.pinned : Pinned := { name := "ytaklpdhhcnnclaa", sum := "fbd1e67cb16d377d9411178136850cc0e3c59ba9a4e465fd8edda6b0062b99cd", checked := Try.checked }
namespace Rows
def none {H : Type} : Left H := { results := [], args := [] }

/-- 'moidorelaw07.PermutationConstant': WHATEVER THE INPUT: true; the input reads as it did. -/
def permutationConstantSpec : ChangeSpec := { name := "permutationConstant", fn := fun _ => fun
  | [d1, d2, d3] => { results := [.lit (.bool true)], args := [d1, d2, d3] }
  | _ => none }
def permutationConstantRow : OpenClaim := { program := "ytaklpdhhcnnclaa", sum := "fbd1e67cb16d377d9411178136850cc0e3c59ba9a4e465fd8edda6b0062b99cd", func := "moidore/moidorelaw07.PermutationConstant", spec := "permutationConstant", inPlace := ["math/bits.Add64"], apart := false }
def PermutationConstantSaid : Prop := permutationConstantRow.holds Try.pinned (OpenSpec.ofChange permutationConstantSpec)

/-- ITS FALSE NEIGHBOUR: 'it returns false'. Refute it at one input. -/
def permutationConstantWrong : ChangeSpec := { name := "permutationConstant", fn := fun _ => fun
  | [d1, d2, d3] => { results := [.lit (.bool false)], args := [d1, d2, d3] }
  | _ => none }
def PermutationConstantWrongFalsely : Prop := permutationConstantRow.holds Try.pinned (OpenSpec.ofChange permutationConstantWrong)

/-- 'moidorelaw07.PermutationMix': WHATEVER THE INPUT: true; the input reads as it did. -/
def permutationMixSpec : ChangeSpec := { name := "permutationMix", fn := fun _ => fun
  | [d1, d2, d3] => { results := [.lit (.bool true)], args := [d1, d2, d3] }
  | _ => none }
def permutationMixRow : OpenClaim := { program := "ytaklpdhhcnnclaa", sum := "fbd1e67cb16d377d9411178136850cc0e3c59ba9a4e465fd8edda6b0062b99cd", func := "moidore/moidorelaw07.PermutationMix", spec := "permutationMix", inPlace := ["math/bits.Add64"], apart := false }
def PermutationMixSaid : Prop := permutationMixRow.holds Try.pinned (OpenSpec.ofChange permutationMixSpec)

/-- ITS FALSE NEIGHBOUR: 'it returns false'. Refute it at one input. -/
def permutationMixWrong : ChangeSpec := { name := "permutationMix", fn := fun _ => fun
  | [d1, d2, d3] => { results := [.lit (.bool false)], args := [d1, d2, d3] }
  | _ => none }
def PermutationMixWrongFalsely : Prop := permutationMixRow.holds Try.pinned (OpenSpec.ofChange permutationMixWrong)

/-- 'moidorelaw07.PermutationUnmix': WHATEVER THE INPUT: true; the input reads as it did. -/
def permutationUnmixSpec : ChangeSpec := { name := "permutationUnmix", fn := fun _ => fun
  | [d1, d2] => { results := [.lit (.bool true)], args := [d1, d2] }
  | _ => none }
def permutationUnmixRow : OpenClaim := { program := "ytaklpdhhcnnclaa", sum := "fbd1e67cb16d377d9411178136850cc0e3c59ba9a4e465fd8edda6b0062b99cd", func := "moidore/moidorelaw07.PermutationUnmix", spec := "permutationUnmix", inPlace := ["math/bits.Add64"], named := ["math/bits.divideError", "math/bits.overflowError"], apart := false }
def PermutationUnmixSaid : Prop := permutationUnmixRow.holds Try.pinned (OpenSpec.ofChange permutationUnmixSpec)

/-- ITS FALSE NEIGHBOUR: 'it returns false'. Refute it at one input. -/
def permutationUnmixWrong : ChangeSpec := { name := "permutationUnmix", fn := fun _ => fun
  | [d1, d2] => { results := [.lit (.bool false)], args := [d1, d2] }
  | _ => none }
def PermutationUnmixWrongFalsely : Prop := permutationUnmixRow.holds Try.pinned (OpenSpec.ofChange permutationUnmixWrong)

/-- 'moidorelaw07.PermutationPermute': WHATEVER THE INPUT: true; the input reads as it did. -/
def permutationPermuteSpec : ChangeSpec := { name := "permutationPermute", fn := fun _ => fun
  | [d1, d2] => { results := [.lit (.bool true)], args := [d1, d2] }
  | _ => none }
def permutationPermuteRow : OpenClaim := { program := "ytaklpdhhcnnclaa", sum := "fbd1e67cb16d377d9411178136850cc0e3c59ba9a4e465fd8edda6b0062b99cd", func := "moidore/moidorelaw07.PermutationPermute", spec := "permutationPermute", inPlace := ["math/bits.Add64"], named := ["math/bits.divideError", "math/bits.overflowError"], apart := false }
def PermutationPermuteSaid : Prop := permutationPermuteRow.holds Try.pinned (OpenSpec.ofChange permutationPermuteSpec)

/-- ITS FALSE NEIGHBOUR: 'it returns false'. Refute it at one input. -/
def permutationPermuteWrong : ChangeSpec := { name := "permutationPermute", fn := fun _ => fun
  | [d1, d2] => { results := [.lit (.bool false)], args := [d1, d2] }
  | _ => none }
def PermutationPermuteWrongFalsely : Prop := permutationPermuteRow.holds Try.pinned (OpenSpec.ofChange permutationPermuteWrong)

/-- 'moidorelaw07.PermutationDifferent': WHATEVER THE INPUT: true; the input reads as it did. -/
def permutationDifferentSpec : ChangeSpec := { name := "permutationDifferent", fn := fun _ => fun
  | [d1, d2, d3] => { results := [.lit (.bool true)], args := [d1, d2, d3] }
  | _ => none }
def permutationDifferentRow : OpenClaim := { program := "ytaklpdhhcnnclaa", sum := "fbd1e67cb16d377d9411178136850cc0e3c59ba9a4e465fd8edda6b0062b99cd", func := "moidore/moidorelaw07.PermutationDifferent", spec := "permutationDifferent", inPlace := ["math/bits.Add64"], named := ["math/bits.divideError", "math/bits.overflowError"], apart := false }
def PermutationDifferentSaid : Prop := permutationDifferentRow.holds Try.pinned (OpenSpec.ofChange permutationDifferentSpec)

/-- ITS FALSE NEIGHBOUR: 'it returns false'. Refute it at one input. -/
def permutationDifferentWrong : ChangeSpec := { name := "permutationDifferent", fn := fun _ => fun
  | [d1, d2, d3] => { results := [.lit (.bool false)], args := [d1, d2, d3] }
  | _ => none }
def PermutationDifferentWrongFalsely : Prop := permutationDifferentRow.holds Try.pinned (OpenSpec.ofChange permutationDifferentWrong)

/-- 'moidorelaw07.PermutationInverse': WHATEVER THE INPUT: true; the input reads as it did. -/
def permutationInverseSpec : ChangeSpec := { name := "permutationInverse", fn := fun _ => fun
  | [d1, d2] => { results := [.lit (.bool true)], args := [d1, d2] }
  | _ => none }
def permutationInverseRow : OpenClaim := { program := "ytaklpdhhcnnclaa", sum := "fbd1e67cb16d377d9411178136850cc0e3c59ba9a4e465fd8edda6b0062b99cd", func := "moidore/moidorelaw07.PermutationInverse", spec := "permutationInverse", inPlace := ["math/bits.Add64"], named := ["math/bits.divideError", "math/bits.overflowError"], apart := false }
def PermutationInverseSaid : Prop := permutationInverseRow.holds Try.pinned (OpenSpec.ofChange permutationInverseSpec)

/-- ITS FALSE NEIGHBOUR: 'it returns false'. Refute it at one input. -/
def permutationInverseWrong : ChangeSpec := { name := "permutationInverse", fn := fun _ => fun
  | [d1, d2] => { results := [.lit (.bool false)], args := [d1, d2] }
  | _ => none }
def PermutationInverseWrongFalsely : Prop := permutationInverseRow.holds Try.pinned (OpenSpec.ofChange permutationInverseWrong)

/-- 'moidorelaw07.PermutationBoth': WHATEVER THE INPUT: true; the input reads as it did. -/
def permutationBothSpec : ChangeSpec := { name := "permutationBoth", fn := fun _ => fun
  | [d1, d2] => { results := [.lit (.bool true)], args := [d1, d2] }
  | _ => none }
def permutationBothRow : OpenClaim := { program := "ytaklpdhhcnnclaa", sum := "fbd1e67cb16d377d9411178136850cc0e3c59ba9a4e465fd8edda6b0062b99cd", func := "moidore/moidorelaw07.PermutationBoth", spec := "permutationBoth", inPlace := ["math/bits.Add64"], named := ["math/bits.divideError", "math/bits.overflowError"], apart := false }
def PermutationBothSaid : Prop := permutationBothRow.holds Try.pinned (OpenSpec.ofChange permutationBothSpec)

/-- ITS FALSE NEIGHBOUR: 'it returns false'. Refute it at one input. -/
def permutationBothWrong : ChangeSpec := { name := "permutationBoth", fn := fun _ => fun
  | [d1, d2] => { results := [.lit (.bool false)], args := [d1, d2] }
  | _ => none }
def PermutationBothWrongFalsely : Prop := permutationBothRow.holds Try.pinned (OpenSpec.ofChange permutationBothWrong)

/-- 'moidorelaw08.SpongeHash': WHATEVER THE INPUT: true; the input reads as it did. -/
def spongeHashSpec : ChangeSpec := { name := "spongeHash", fn := fun _ => fun
  | [d1, d2, d3] => { results := [.lit (.bool true)], args := [d1, d2, d3] }
  | _ => none }
def spongeHashRow : OpenClaim := { program := "ytaklpdhhcnnclaa", sum := "fbd1e67cb16d377d9411178136850cc0e3c59ba9a4e465fd8edda6b0062b99cd", func := "moidore/moidorelaw08.SpongeHash", spec := "spongeHash", inPlace := ["math/bits.Add64"], named := ["math/bits.divideError", "math/bits.overflowError"], apart := false }
def SpongeHashSaid : Prop := spongeHashRow.holds Try.pinned (OpenSpec.ofChange spongeHashSpec)

/-- ITS FALSE NEIGHBOUR: 'it returns false'. Refute it at one input. -/
def spongeHashWrong : ChangeSpec := { name := "spongeHash", fn := fun _ => fun
  | [d1, d2, d3] => { results := [.lit (.bool false)], args := [d1, d2, d3] }
  | _ => none }
def SpongeHashWrongFalsely : Prop := spongeHashRow.holds Try.pinned (OpenSpec.ofChange spongeHashWrong)

/-- 'moidorelaw08.SpongeReduced': WHATEVER THE INPUT: true; the input reads as it did. -/
def spongeReducedSpec : ChangeSpec := { name := "spongeReduced", fn := fun _ => fun
  | [d1, d2, d3] => { results := [.lit (.bool true)], args := [d1, d2, d3] }
  | _ => none }
def spongeReducedRow : OpenClaim := { program := "ytaklpdhhcnnclaa", sum := "fbd1e67cb16d377d9411178136850cc0e3c59ba9a4e465fd8edda6b0062b99cd", func := "moidore/moidorelaw08.SpongeReduced", spec := "spongeReduced", inPlace := ["math/bits.Add64"], named := ["math/bits.divideError", "math/bits.overflowError"], apart := false }
def SpongeReducedSaid : Prop := spongeReducedRow.holds Try.pinned (OpenSpec.ofChange spongeReducedSpec)

/-- ITS FALSE NEIGHBOUR: 'it returns false'. Refute it at one input. -/
def spongeReducedWrong : ChangeSpec := { name := "spongeReduced", fn := fun _ => fun
  | [d1, d2, d3] => { results := [.lit (.bool false)], args := [d1, d2, d3] }
  | _ => none }
def SpongeReducedWrongFalsely : Prop := spongeReducedRow.holds Try.pinned (OpenSpec.ofChange spongeReducedWrong)

/-- 'moidorelaw08.SpongePack': WHATEVER THE INPUT: true; the input reads as it did. -/
def spongePackSpec : ChangeSpec := { name := "spongePack", fn := fun _ => fun
  | [d] => { results := [.lit (.bool true)], args := [d] }
  | _ => none }
def spongePackRow : OpenClaim := { program := "ytaklpdhhcnnclaa", sum := "fbd1e67cb16d377d9411178136850cc0e3c59ba9a4e465fd8edda6b0062b99cd", func := "moidore/moidorelaw08.SpongePack", spec := "spongePack", inPlace := ["math/bits.Add64"], named := ["math/bits.divideError", "math/bits.overflowError"], apart := false }
def SpongePackSaid : Prop := spongePackRow.holds Try.pinned (OpenSpec.ofChange spongePackSpec)

/-- ITS FALSE NEIGHBOUR: 'it returns false'. Refute it at one input. -/
def spongePackWrong : ChangeSpec := { name := "spongePack", fn := fun _ => fun
  | [d] => { results := [.lit (.bool false)], args := [d] }
  | _ => none }
def SpongePackWrongFalsely : Prop := spongePackRow.holds Try.pinned (OpenSpec.ofChange spongePackWrong)

/-- 'moidorelaw08.SpongeUnpack': WHATEVER THE INPUT: true; the input reads as it did. -/
def spongeUnpackSpec : ChangeSpec := { name := "spongeUnpack", fn := fun _ => fun
  | [d] => { results := [.lit (.bool true)], args := [d] }
  | _ => none }
def spongeUnpackRow : OpenClaim := { program := "ytaklpdhhcnnclaa", sum := "fbd1e67cb16d377d9411178136850cc0e3c59ba9a4e465fd8edda6b0062b99cd", func := "moidore/moidorelaw08.SpongeUnpack", spec := "spongeUnpack", inPlace := ["math/bits.Add64"], named := ["math/bits.divideError", "math/bits.overflowError"], apart := false }
def SpongeUnpackSaid : Prop := spongeUnpackRow.holds Try.pinned (OpenSpec.ofChange spongeUnpackSpec)

/-- ITS FALSE NEIGHBOUR: 'it returns false'. Refute it at one input. -/
def spongeUnpackWrong : ChangeSpec := { name := "spongeUnpack", fn := fun _ => fun
  | [d] => { results := [.lit (.bool false)], args := [d] }
  | _ => none }
def SpongeUnpackWrongFalsely : Prop := spongeUnpackRow.holds Try.pinned (OpenSpec.ofChange spongeUnpackWrong)

/-- 'moidorelaw08.SpongeBytes': WHATEVER THE INPUT: true; the input reads as it did. -/
def spongeBytesSpec : ChangeSpec := { name := "spongeBytes", fn := fun _ => fun
  | [d1, d2] => { results := [.lit (.bool true)], args := [d1, d2] }
  | _ => none }
def spongeBytesRow : OpenClaim := { program := "ytaklpdhhcnnclaa", sum := "fbd1e67cb16d377d9411178136850cc0e3c59ba9a4e465fd8edda6b0062b99cd", func := "moidore/moidorelaw08.SpongeBytes", spec := "spongeBytes", inPlace := ["math/bits.Add64"], named := ["math/bits.divideError", "math/bits.overflowError"], apart := false }
def SpongeBytesSaid : Prop := spongeBytesRow.holds Try.pinned (OpenSpec.ofChange spongeBytesSpec)

/-- ITS FALSE NEIGHBOUR: 'it returns false'. Refute it at one input. -/
def spongeBytesWrong : ChangeSpec := { name := "spongeBytes", fn := fun _ => fun
  | [d1, d2] => { results := [.lit (.bool false)], args := [d1, d2] }
  | _ => none }
def SpongeBytesWrongFalsely : Prop := spongeBytesRow.holds Try.pinned (OpenSpec.ofChange spongeBytesWrong)

/-- 'moidorelaw08.SpongeSqueeze': WHATEVER THE INPUT: true; the input reads as it did. -/
def spongeSqueezeSpec : ChangeSpec := { name := "spongeSqueeze", fn := fun _ => fun
  | [d] => { results := [.lit (.bool true)], args := [d] }
  | _ => none }
def spongeSqueezeRow : OpenClaim := { program := "ytaklpdhhcnnclaa", sum := "fbd1e67cb16d377d9411178136850cc0e3c59ba9a4e465fd8edda6b0062b99cd", func := "moidore/moidorelaw08.SpongeSqueeze", spec := "spongeSqueeze", inPlace := ["math/bits.Add64"], named := ["math/bits.divideError", "math/bits.overflowError"], apart := false }
def SpongeSqueezeSaid : Prop := spongeSqueezeRow.holds Try.pinned (OpenSpec.ofChange spongeSqueezeSpec)

/-- ITS FALSE NEIGHBOUR: 'it returns false'. Refute it at one input. -/
def spongeSqueezeWrong : ChangeSpec := { name := "spongeSqueeze", fn := fun _ => fun
  | [d] => { results := [.lit (.bool false)], args := [d] }
  | _ => none }
def SpongeSqueezeWrongFalsely : Prop := spongeSqueezeRow.holds Try.pinned (OpenSpec.ofChange spongeSqueezeWrong)

/-- 'moidorelaw08.SpongePrefix': WHATEVER THE INPUT: true; the input reads as it did. -/
def spongePrefixSpec : ChangeSpec := { name := "spongePrefix", fn := fun _ => fun
  | [d1, d2] => { results := [.lit (.bool true)], args := [d1, d2] }
  | _ => none }
def spongePrefixRow : OpenClaim := { program := "ytaklpdhhcnnclaa", sum := "fbd1e67cb16d377d9411178136850cc0e3c59ba9a4e465fd8edda6b0062b99cd", func := "moidore/moidorelaw08.SpongePrefix", spec := "spongePrefix", inPlace := ["math/bits.Add64"], named := ["math/bits.divideError", "math/bits.overflowError"], apart := false }
def SpongePrefixSaid : Prop := spongePrefixRow.holds Try.pinned (OpenSpec.ofChange spongePrefixSpec)

/-- ITS FALSE NEIGHBOUR: 'it returns false'. Refute it at one input. -/
def spongePrefixWrong : ChangeSpec := { name := "spongePrefix", fn := fun _ => fun
  | [d1, d2] => { results := [.lit (.bool false)], args := [d1, d2] }
  | _ => none }
def SpongePrefixWrongFalsely : Prop := spongePrefixRow.holds Try.pinned (OpenSpec.ofChange spongePrefixWrong)

/-- 'moidorelaw09.CipherSeal': WHATEVER THE INPUT: true; the input reads as it did. -/
def cipherSealSpec : ChangeSpec := { name := "cipherSeal", fn := fun _ => fun
  | [d1, d2, d3] => { results := [.lit (.bool true)], args := [d1, d2, d3] }
  | _ => none }
def cipherSealRow : OpenClaim := { program := "ytaklpdhhcnnclaa", sum := "fbd1e67cb16d377d9411178136850cc0e3c59ba9a4e465fd8edda6b0062b99cd", func := "moidore/moidorelaw09.CipherSeal", spec := "cipherSeal", inPlace := ["math/bits.Add64"], named := ["math/bits.divideError", "math/bits.overflowError"], apart := false }
def CipherSealSaid : Prop := cipherSealRow.holds Try.pinned (OpenSpec.ofChange cipherSealSpec)

/-- ITS FALSE NEIGHBOUR: 'it returns false'. Refute it at one input. -/
def cipherSealWrong : ChangeSpec := { name := "cipherSeal", fn := fun _ => fun
  | [d1, d2, d3] => { results := [.lit (.bool false)], args := [d1, d2, d3] }
  | _ => none }
def CipherSealWrongFalsely : Prop := cipherSealRow.holds Try.pinned (OpenSpec.ofChange cipherSealWrong)

/-- 'moidorelaw09.CipherOpen': WHATEVER THE INPUT: true; the input reads as it did. -/
def cipherOpenSpec : ChangeSpec := { name := "cipherOpen", fn := fun _ => fun
  | [d1, d2, d3] => { results := [.lit (.bool true)], args := [d1, d2, d3] }
  | _ => none }
def cipherOpenRow : OpenClaim := { program := "ytaklpdhhcnnclaa", sum := "fbd1e67cb16d377d9411178136850cc0e3c59ba9a4e465fd8edda6b0062b99cd", func := "moidore/moidorelaw09.CipherOpen", spec := "cipherOpen", inPlace := ["math/bits.Add64"], named := ["math/bits.divideError", "math/bits.overflowError"], apart := false }
def CipherOpenSaid : Prop := cipherOpenRow.holds Try.pinned (OpenSpec.ofChange cipherOpenSpec)

/-- ITS FALSE NEIGHBOUR: 'it returns false'. Refute it at one input. -/
def cipherOpenWrong : ChangeSpec := { name := "cipherOpen", fn := fun _ => fun
  | [d1, d2, d3] => { results := [.lit (.bool false)], args := [d1, d2, d3] }
  | _ => none }
def CipherOpenWrongFalsely : Prop := cipherOpenRow.holds Try.pinned (OpenSpec.ofChange cipherOpenWrong)

/-- 'moidorelaw09.CipherRoundTrip': WHATEVER THE INPUT: true; the input reads as it did. -/
def cipherRoundTripSpec : ChangeSpec := { name := "cipherRoundTrip", fn := fun _ => fun
  | [d1, d2, d3] => { results := [.lit (.bool true)], args := [d1, d2, d3] }
  | _ => none }
def cipherRoundTripRow : OpenClaim := { program := "ytaklpdhhcnnclaa", sum := "fbd1e67cb16d377d9411178136850cc0e3c59ba9a4e465fd8edda6b0062b99cd", func := "moidore/moidorelaw09.CipherRoundTrip", spec := "cipherRoundTrip", inPlace := ["math/bits.Add64"], named := ["math/bits.divideError", "math/bits.overflowError"], apart := false }
def CipherRoundTripSaid : Prop := cipherRoundTripRow.holds Try.pinned (OpenSpec.ofChange cipherRoundTripSpec)

/-- ITS FALSE NEIGHBOUR: 'it returns false'. Refute it at one input. -/
def cipherRoundTripWrong : ChangeSpec := { name := "cipherRoundTrip", fn := fun _ => fun
  | [d1, d2, d3] => { results := [.lit (.bool false)], args := [d1, d2, d3] }
  | _ => none }
def CipherRoundTripWrongFalsely : Prop := cipherRoundTripRow.holds Try.pinned (OpenSpec.ofChange cipherRoundTripWrong)

/-- 'moidorelaw09.CipherInjective': WHATEVER THE INPUT: true; the input reads as it did. -/
def cipherInjectiveSpec : ChangeSpec := { name := "cipherInjective", fn := fun _ => fun
  | [d1, d2, d3] => { results := [.lit (.bool true)], args := [d1, d2, d3] }
  | _ => none }
def cipherInjectiveRow : OpenClaim := { program := "ytaklpdhhcnnclaa", sum := "fbd1e67cb16d377d9411178136850cc0e3c59ba9a4e465fd8edda6b0062b99cd", func := "moidore/moidorelaw09.CipherInjective", spec := "cipherInjective", inPlace := ["math/bits.Add64"], named := ["math/bits.divideError", "math/bits.overflowError"], apart := false }
def CipherInjectiveSaid : Prop := cipherInjectiveRow.holds Try.pinned (OpenSpec.ofChange cipherInjectiveSpec)

/-- ITS FALSE NEIGHBOUR: 'it returns false'. Refute it at one input. -/
def cipherInjectiveWrong : ChangeSpec := { name := "cipherInjective", fn := fun _ => fun
  | [d1, d2, d3] => { results := [.lit (.bool false)], args := [d1, d2, d3] }
  | _ => none }
def CipherInjectiveWrongFalsely : Prop := cipherInjectiveRow.holds Try.pinned (OpenSpec.ofChange cipherInjectiveWrong)

/-- 'moidorelaw09.CipherForgedTag': WHATEVER THE INPUT: true; the input reads as it did. -/
def cipherForgedTagSpec : ChangeSpec := { name := "cipherForgedTag", fn := fun _ => fun
  | [d1, d2, d3] => { results := [.lit (.bool true)], args := [d1, d2, d3] }
  | _ => none }
def cipherForgedTagRow : OpenClaim := { program := "ytaklpdhhcnnclaa", sum := "fbd1e67cb16d377d9411178136850cc0e3c59ba9a4e465fd8edda6b0062b99cd", func := "moidore/moidorelaw09.CipherForgedTag", spec := "cipherForgedTag", inPlace := ["math/bits.Add64"], named := ["math/bits.divideError", "math/bits.overflowError"], apart := false }
def CipherForgedTagSaid : Prop := cipherForgedTagRow.holds Try.pinned (OpenSpec.ofChange cipherForgedTagSpec)

/-- ITS FALSE NEIGHBOUR: 'it returns false'. Refute it at one input. -/
def cipherForgedTagWrong : ChangeSpec := { name := "cipherForgedTag", fn := fun _ => fun
  | [d1, d2, d3] => { results := [.lit (.bool false)], args := [d1, d2, d3] }
  | _ => none }
def CipherForgedTagWrongFalsely : Prop := cipherForgedTagRow.holds Try.pinned (OpenSpec.ofChange cipherForgedTagWrong)

/-- 'moidorelaw09.CipherTag': WHATEVER THE INPUT: true; the input reads as it did. -/
def cipherTagSpec : ChangeSpec := { name := "cipherTag", fn := fun _ => fun
  | [d1, d2, d3] => { results := [.lit (.bool true)], args := [d1, d2, d3] }
  | _ => none }
def cipherTagRow : OpenClaim := { program := "ytaklpdhhcnnclaa", sum := "fbd1e67cb16d377d9411178136850cc0e3c59ba9a4e465fd8edda6b0062b99cd", func := "moidore/moidorelaw09.CipherTag", spec := "cipherTag", inPlace := ["math/bits.Add64"], named := ["math/bits.divideError", "math/bits.overflowError"], apart := false }
def CipherTagSaid : Prop := cipherTagRow.holds Try.pinned (OpenSpec.ofChange cipherTagSpec)

/-- ITS FALSE NEIGHBOUR: 'it returns false'. Refute it at one input. -/
def cipherTagWrong : ChangeSpec := { name := "cipherTag", fn := fun _ => fun
  | [d1, d2, d3] => { results := [.lit (.bool false)], args := [d1, d2, d3] }
  | _ => none }
def CipherTagWrongFalsely : Prop := cipherTagRow.holds Try.pinned (OpenSpec.ofChange cipherTagWrong)

/-- 'moidorelaw09.CipherBijective': WHATEVER THE INPUT: true; the input reads as it did. -/
def cipherBijectiveSpec : ChangeSpec := { name := "cipherBijective", fn := fun _ => fun
  | [d1, d2, d3] => { results := [.lit (.bool true)], args := [d1, d2, d3] }
  | _ => none }
def cipherBijectiveRow : OpenClaim := { program := "ytaklpdhhcnnclaa", sum := "fbd1e67cb16d377d9411178136850cc0e3c59ba9a4e465fd8edda6b0062b99cd", func := "moidore/moidorelaw09.CipherBijective", spec := "cipherBijective", inPlace := ["math/bits.Add64"], named := ["math/bits.divideError", "math/bits.overflowError"], apart := false }
def CipherBijectiveSaid : Prop := cipherBijectiveRow.holds Try.pinned (OpenSpec.ofChange cipherBijectiveSpec)

/-- ITS FALSE NEIGHBOUR: 'it returns false'. Refute it at one input. -/
def cipherBijectiveWrong : ChangeSpec := { name := "cipherBijective", fn := fun _ => fun
  | [d1, d2, d3] => { results := [.lit (.bool false)], args := [d1, d2, d3] }
  | _ => none }
def CipherBijectiveWrongFalsely : Prop := cipherBijectiveRow.holds Try.pinned (OpenSpec.ofChange cipherBijectiveWrong)

/- THE SECOND FORM. 'bulk': how many values and letters a reading holds, each counted each time it is reached (what is shared counts as often as it is met; a slice's spare places count too). A statement '..UptoSaid' is the law's where the arguments, and the package variables that the reading takes, are together of bulk at most 1048576: NARROWER than '..Said'. Prove '..Said' where nothing that the law and all that it calls make is longer than what came in: it says more and counts as full. Else prove '..UptoSaid'. A law counts once. -/
mutual
def uptoBulk {H : Type} : DataW H → Nat
  | .lit (.string bytes) => bytes.length + 1
  | .lit _ => 1
  | .nil => 1
  | .ptr d => uptoBulk d + 1
  | .slice elems spare => uptoBulkAll elems + uptoBulkAll spare + 1
  | .agg parts => uptoBulkAll parts + 1
  | .iface _ d => uptoBulk d + 1
  | .map entries => uptoBulkEntries entries + 1
  | .held _ => 1
def uptoBulkAll {H : Type} : List (DataW H) → Nat
  | [] => 0
  | d :: r => uptoBulk d + uptoBulkAll r
def uptoBulkEntries {H : Type} : List (Lit × DataW H) → Nat
  | [] => 0
  | x :: r => uptoBulkEntry x + uptoBulkEntries r
def uptoBulkEntry {H : Type} : Lit × DataW H → Nat
  | (.string bytes, d) => bytes.length + uptoBulk d + 1
  | (_, d) => uptoBulk d + 1
 end
def uptoSmall : (H : Type) → List (DataW H) → Bool := fun _ ds => decide (uptoBulkAll ds ≤ 1048576)
def OpenSpec.upto (s : _root_.Go.ChangeSpec) : _root_.Go.OpenSpec := { _root_.Go.OpenSpec.ofChange s with cond := some uptoSmall }

/-- 'moidorelaw07.PermutationConstant', WHERE WHAT IT READS IS OF BULK AT MOST 1048576: true; the input reads as it did. -/
def permutationConstantUptoRow : OpenClaim := { program := "ytaklpdhhcnnclaa", sum := "fbd1e67cb16d377d9411178136850cc0e3c59ba9a4e465fd8edda6b0062b99cd", func := "moidore/moidorelaw07.PermutationConstant", spec := "permutationConstant", inPlace := ["math/bits.Add64"], apart := false, narrowed := true }
def PermutationConstantUptoSaid : Prop := permutationConstantUptoRow.holds Try.pinned (OpenSpec.upto permutationConstantSpec)

/-- 'moidorelaw07.PermutationMix', WHERE WHAT IT READS IS OF BULK AT MOST 1048576: true; the input reads as it did. -/
def permutationMixUptoRow : OpenClaim := { program := "ytaklpdhhcnnclaa", sum := "fbd1e67cb16d377d9411178136850cc0e3c59ba9a4e465fd8edda6b0062b99cd", func := "moidore/moidorelaw07.PermutationMix", spec := "permutationMix", inPlace := ["math/bits.Add64"], apart := false, narrowed := true }
def PermutationMixUptoSaid : Prop := permutationMixUptoRow.holds Try.pinned (OpenSpec.upto permutationMixSpec)

/-- 'moidorelaw07.PermutationUnmix', WHERE WHAT IT READS IS OF BULK AT MOST 1048576: true; the input reads as it did. -/
def permutationUnmixUptoRow : OpenClaim := { program := "ytaklpdhhcnnclaa", sum := "fbd1e67cb16d377d9411178136850cc0e3c59ba9a4e465fd8edda6b0062b99cd", func := "moidore/moidorelaw07.PermutationUnmix", spec := "permutationUnmix", inPlace := ["math/bits.Add64"], named := ["math/bits.divideError", "math/bits.overflowError"], apart := false, narrowed := true }
def PermutationUnmixUptoSaid : Prop := permutationUnmixUptoRow.holds Try.pinned (OpenSpec.upto permutationUnmixSpec)

/-- 'moidorelaw07.PermutationPermute', WHERE WHAT IT READS IS OF BULK AT MOST 1048576: true; the input reads as it did. -/
def permutationPermuteUptoRow : OpenClaim := { program := "ytaklpdhhcnnclaa", sum := "fbd1e67cb16d377d9411178136850cc0e3c59ba9a4e465fd8edda6b0062b99cd", func := "moidore/moidorelaw07.PermutationPermute", spec := "permutationPermute", inPlace := ["math/bits.Add64"], named := ["math/bits.divideError", "math/bits.overflowError"], apart := false, narrowed := true }
def PermutationPermuteUptoSaid : Prop := permutationPermuteUptoRow.holds Try.pinned (OpenSpec.upto permutationPermuteSpec)

/-- 'moidorelaw07.PermutationDifferent', WHERE WHAT IT READS IS OF BULK AT MOST 1048576: true; the input reads as it did. -/
def permutationDifferentUptoRow : OpenClaim := { program := "ytaklpdhhcnnclaa", sum := "fbd1e67cb16d377d9411178136850cc0e3c59ba9a4e465fd8edda6b0062b99cd", func := "moidore/moidorelaw07.PermutationDifferent", spec := "permutationDifferent", inPlace := ["math/bits.Add64"], named := ["math/bits.divideError", "math/bits.overflowError"], apart := false, narrowed := true }
def PermutationDifferentUptoSaid : Prop := permutationDifferentUptoRow.holds Try.pinned (OpenSpec.upto permutationDifferentSpec)

/-- 'moidorelaw07.PermutationInverse', WHERE WHAT IT READS IS OF BULK AT MOST 1048576: true; the input reads as it did. -/
def permutationInverseUptoRow : OpenClaim := { program := "ytaklpdhhcnnclaa", sum := "fbd1e67cb16d377d9411178136850cc0e3c59ba9a4e465fd8edda6b0062b99cd", func := "moidore/moidorelaw07.PermutationInverse", spec := "permutationInverse", inPlace := ["math/bits.Add64"], named := ["math/bits.divideError", "math/bits.overflowError"], apart := false, narrowed := true }
def PermutationInverseUptoSaid : Prop := permutationInverseUptoRow.holds Try.pinned (OpenSpec.upto permutationInverseSpec)

/-- 'moidorelaw07.PermutationBoth', WHERE WHAT IT READS IS OF BULK AT MOST 1048576: true; the input reads as it did. -/
def permutationBothUptoRow : OpenClaim := { program := "ytaklpdhhcnnclaa", sum := "fbd1e67cb16d377d9411178136850cc0e3c59ba9a4e465fd8edda6b0062b99cd", func := "moidore/moidorelaw07.PermutationBoth", spec := "permutationBoth", inPlace := ["math/bits.Add64"], named := ["math/bits.divideError", "math/bits.overflowError"], apart := false, narrowed := true }
def PermutationBothUptoSaid : Prop := permutationBothUptoRow.holds Try.pinned (OpenSpec.upto permutationBothSpec)

/-- 'moidorelaw08.SpongeHash', WHERE WHAT IT READS IS OF BULK AT MOST 1048576: true; the input reads as it did. -/
def spongeHashUptoRow : OpenClaim := { program := "ytaklpdhhcnnclaa", sum := "fbd1e67cb16d377d9411178136850cc0e3c59ba9a4e465fd8edda6b0062b99cd", func := "moidore/moidorelaw08.SpongeHash", spec := "spongeHash", inPlace := ["math/bits.Add64"], named := ["math/bits.divideError", "math/bits.overflowError"], apart := false, narrowed := true }
def SpongeHashUptoSaid : Prop := spongeHashUptoRow.holds Try.pinned (OpenSpec.upto spongeHashSpec)

/-- 'moidorelaw08.SpongeReduced', WHERE WHAT IT READS IS OF BULK AT MOST 1048576: true; the input reads as it did. -/
def spongeReducedUptoRow : OpenClaim := { program := "ytaklpdhhcnnclaa", sum := "fbd1e67cb16d377d9411178136850cc0e3c59ba9a4e465fd8edda6b0062b99cd", func := "moidore/moidorelaw08.SpongeReduced", spec := "spongeReduced", inPlace := ["math/bits.Add64"], named := ["math/bits.divideError", "math/bits.overflowError"], apart := false, narrowed := true }
def SpongeReducedUptoSaid : Prop := spongeReducedUptoRow.holds Try.pinned (OpenSpec.upto spongeReducedSpec)

/-- 'moidorelaw08.SpongePack', WHERE WHAT IT READS IS OF BULK AT MOST 1048576: true; the input reads as it did. -/
def spongePackUptoRow : OpenClaim := { program := "ytaklpdhhcnnclaa", sum := "fbd1e67cb16d377d9411178136850cc0e3c59ba9a4e465fd8edda6b0062b99cd", func := "moidore/moidorelaw08.SpongePack", spec := "spongePack", inPlace := ["math/bits.Add64"], named := ["math/bits.divideError", "math/bits.overflowError"], apart := false, narrowed := true }
def SpongePackUptoSaid : Prop := spongePackUptoRow.holds Try.pinned (OpenSpec.upto spongePackSpec)

/-- 'moidorelaw08.SpongeUnpack', WHERE WHAT IT READS IS OF BULK AT MOST 1048576: true; the input reads as it did. -/
def spongeUnpackUptoRow : OpenClaim := { program := "ytaklpdhhcnnclaa", sum := "fbd1e67cb16d377d9411178136850cc0e3c59ba9a4e465fd8edda6b0062b99cd", func := "moidore/moidorelaw08.SpongeUnpack", spec := "spongeUnpack", inPlace := ["math/bits.Add64"], named := ["math/bits.divideError", "math/bits.overflowError"], apart := false, narrowed := true }
def SpongeUnpackUptoSaid : Prop := spongeUnpackUptoRow.holds Try.pinned (OpenSpec.upto spongeUnpackSpec)

/-- 'moidorelaw08.SpongeBytes', WHERE WHAT IT READS IS OF BULK AT MOST 1048576: true; the input reads as it did. -/
def spongeBytesUptoRow : OpenClaim := { program := "ytaklpdhhcnnclaa", sum := "fbd1e67cb16d377d9411178136850cc0e3c59ba9a4e465fd8edda6b0062b99cd", func := "moidore/moidorelaw08.SpongeBytes", spec := "spongeBytes", inPlace := ["math/bits.Add64"], named := ["math/bits.divideError", "math/bits.overflowError"], apart := false, narrowed := true }
def SpongeBytesUptoSaid : Prop := spongeBytesUptoRow.holds Try.pinned (OpenSpec.upto spongeBytesSpec)

/-- 'moidorelaw08.SpongeSqueeze', WHERE WHAT IT READS IS OF BULK AT MOST 1048576: true; the input reads as it did. -/
def spongeSqueezeUptoRow : OpenClaim := { program := "ytaklpdhhcnnclaa", sum := "fbd1e67cb16d377d9411178136850cc0e3c59ba9a4e465fd8edda6b0062b99cd", func := "moidore/moidorelaw08.SpongeSqueeze", spec := "spongeSqueeze", inPlace := ["math/bits.Add64"], named := ["math/bits.divideError", "math/bits.overflowError"], apart := false, narrowed := true }
def SpongeSqueezeUptoSaid : Prop := spongeSqueezeUptoRow.holds Try.pinned (OpenSpec.upto spongeSqueezeSpec)

/-- 'moidorelaw08.SpongePrefix', WHERE WHAT IT READS IS OF BULK AT MOST 1048576: true; the input reads as it did. -/
def spongePrefixUptoRow : OpenClaim := { program := "ytaklpdhhcnnclaa", sum := "fbd1e67cb16d377d9411178136850cc0e3c59ba9a4e465fd8edda6b0062b99cd", func := "moidore/moidorelaw08.SpongePrefix", spec := "spongePrefix", inPlace := ["math/bits.Add64"], named := ["math/bits.divideError", "math/bits.overflowError"], apart := false, narrowed := true }
def SpongePrefixUptoSaid : Prop := spongePrefixUptoRow.holds Try.pinned (OpenSpec.upto spongePrefixSpec)

/-- 'moidorelaw09.CipherSeal', WHERE WHAT IT READS IS OF BULK AT MOST 1048576: true; the input reads as it did. -/
def cipherSealUptoRow : OpenClaim := { program := "ytaklpdhhcnnclaa", sum := "fbd1e67cb16d377d9411178136850cc0e3c59ba9a4e465fd8edda6b0062b99cd", func := "moidore/moidorelaw09.CipherSeal", spec := "cipherSeal", inPlace := ["math/bits.Add64"], named := ["math/bits.divideError", "math/bits.overflowError"], apart := false, narrowed := true }
def CipherSealUptoSaid : Prop := cipherSealUptoRow.holds Try.pinned (OpenSpec.upto cipherSealSpec)

/-- 'moidorelaw09.CipherOpen', WHERE WHAT IT READS IS OF BULK AT MOST 1048576: true; the input reads as it did. -/
def cipherOpenUptoRow : OpenClaim := { program := "ytaklpdhhcnnclaa", sum := "fbd1e67cb16d377d9411178136850cc0e3c59ba9a4e465fd8edda6b0062b99cd", func := "moidore/moidorelaw09.CipherOpen", spec := "cipherOpen", inPlace := ["math/bits.Add64"], named := ["math/bits.divideError", "math/bits.overflowError"], apart := false, narrowed := true }
def CipherOpenUptoSaid : Prop := cipherOpenUptoRow.holds Try.pinned (OpenSpec.upto cipherOpenSpec)

/-- 'moidorelaw09.CipherRoundTrip', WHERE WHAT IT READS IS OF BULK AT MOST 1048576: true; the input reads as it did. -/
def cipherRoundTripUptoRow : OpenClaim := { program := "ytaklpdhhcnnclaa", sum := "fbd1e67cb16d377d9411178136850cc0e3c59ba9a4e465fd8edda6b0062b99cd", func := "moidore/moidorelaw09.CipherRoundTrip", spec := "cipherRoundTrip", inPlace := ["math/bits.Add64"], named := ["math/bits.divideError", "math/bits.overflowError"], apart := false, narrowed := true }
def CipherRoundTripUptoSaid : Prop := cipherRoundTripUptoRow.holds Try.pinned (OpenSpec.upto cipherRoundTripSpec)

/-- 'moidorelaw09.CipherInjective', WHERE WHAT IT READS IS OF BULK AT MOST 1048576: true; the input reads as it did. -/
def cipherInjectiveUptoRow : OpenClaim := { program := "ytaklpdhhcnnclaa", sum := "fbd1e67cb16d377d9411178136850cc0e3c59ba9a4e465fd8edda6b0062b99cd", func := "moidore/moidorelaw09.CipherInjective", spec := "cipherInjective", inPlace := ["math/bits.Add64"], named := ["math/bits.divideError", "math/bits.overflowError"], apart := false, narrowed := true }
def CipherInjectiveUptoSaid : Prop := cipherInjectiveUptoRow.holds Try.pinned (OpenSpec.upto cipherInjectiveSpec)

/-- 'moidorelaw09.CipherForgedTag', WHERE WHAT IT READS IS OF BULK AT MOST 1048576: true; the input reads as it did. -/
def cipherForgedTagUptoRow : OpenClaim := { program := "ytaklpdhhcnnclaa", sum := "fbd1e67cb16d377d9411178136850cc0e3c59ba9a4e465fd8edda6b0062b99cd", func := "moidore/moidorelaw09.CipherForgedTag", spec := "cipherForgedTag", inPlace := ["math/bits.Add64"], named := ["math/bits.divideError", "math/bits.overflowError"], apart := false, narrowed := true }
def CipherForgedTagUptoSaid : Prop := cipherForgedTagUptoRow.holds Try.pinned (OpenSpec.upto cipherForgedTagSpec)

/-- 'moidorelaw09.CipherTag', WHERE WHAT IT READS IS OF BULK AT MOST 1048576: true; the input reads as it did. -/
def cipherTagUptoRow : OpenClaim := { program := "ytaklpdhhcnnclaa", sum := "fbd1e67cb16d377d9411178136850cc0e3c59ba9a4e465fd8edda6b0062b99cd", func := "moidore/moidorelaw09.CipherTag", spec := "cipherTag", inPlace := ["math/bits.Add64"], named := ["math/bits.divideError", "math/bits.overflowError"], apart := false, narrowed := true }
def CipherTagUptoSaid : Prop := cipherTagUptoRow.holds Try.pinned (OpenSpec.upto cipherTagSpec)

/-- 'moidorelaw09.CipherBijective', WHERE WHAT IT READS IS OF BULK AT MOST 1048576: true; the input reads as it did. -/
def cipherBijectiveUptoRow : OpenClaim := { program := "ytaklpdhhcnnclaa", sum := "fbd1e67cb16d377d9411178136850cc0e3c59ba9a4e465fd8edda6b0062b99cd", func := "moidore/moidorelaw09.CipherBijective", spec := "cipherBijective", inPlace := ["math/bits.Add64"], named := ["math/bits.divideError", "math/bits.overflowError"], apart := false, narrowed := true }
def CipherBijectiveUptoSaid : Prop := cipherBijectiveUptoRow.holds Try.pinned (OpenSpec.upto cipherBijectiveSpec)

end Rows
end Go.Proofs.Ytaklpdhhcnnclaa
