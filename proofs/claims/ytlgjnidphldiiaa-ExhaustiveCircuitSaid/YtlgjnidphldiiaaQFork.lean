/- A region that draws: two operations, one behind the other, and a third beside them; all that follows waits for them. -/
import Derived.Test.YtlgjnidphldiiaaQHeld
namespace Go.Proofs.Ytlgjnidphldiiaa
open Go.RowKit
namespace Rel
section
variable {P : Program} {Q : Exit → Act → World → Prop} {md : Region.Mode} {S : World → Prop} {z : Nat}

end
end Rel
end Go.Proofs.Ytlgjnidphldiiaa
