/- Gadgets: New and Input of the program. -/
import Derived.Test.YtlgjnidphldiiaaQGadIL
import Derived.Test.YtlgjnidphldiiaaQCircV
namespace Go.Proofs.Ytlgjnidphldiiaa
open Go.RowKit

/-- A new circuit. -/
def newS (p pub sec : Int) : St := ⟨p, pub, 1 + pub + sec, [], sec, []⟩
end Go.Proofs.Ytlgjnidphldiiaa
