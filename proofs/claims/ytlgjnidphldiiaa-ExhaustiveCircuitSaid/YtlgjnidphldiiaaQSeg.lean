/- A region that draws its order, in two pieces: whatever of its operations stands behind number m waits for all before it. -/
import Derived.Test.YtlgjnidphldiiaaQRelX
namespace Go.Proofs.Ytlgjnidphldiiaa
open Go.RowKit
namespace Rel

section
variable {P : Program} {Q : Exit → Act → World → Prop}

theorem region_any {id : Nat} {a : Act} {w : World} {l : List Oper} (hm : P.follows .mixedOrders = true) (h : ∀ w1, Below w.heap.size w w1 → Any P l Q a w1) : (Code.region id l.toArray true).wp P Q a w :=
  any_of_region hm (h _ ⟨rfl, rfl, rfl, Nat.le_refl _, fun _ _ => rfl⟩)

end
end Rel
end Go.Proofs.Ytlgjnidphldiiaa
