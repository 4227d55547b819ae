/- Circuits: Small of the reference: it answers. -/
import Derived.Test.YtlgjnidphldiiaaQCircWZ
namespace Go.Proofs.Ytlgjnidphldiiaa
open Go.RowKit

end Go.Proofs.Ytlgjnidphldiiaa
