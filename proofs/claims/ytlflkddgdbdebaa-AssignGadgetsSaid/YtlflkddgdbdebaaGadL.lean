/- Gadgets: Less, Or of the program. -/
import Derived.Test.YtlflkddgdbdebaaGadK
namespace Go.Proofs.Ytlflkddgdbdebaa
open Go.RowKit

/-- What Less returns, on values. -/
def lessX (p : Int) (n : Nat) (x y : Lin) : Lin := subL p (addL p (keepT (0, fred p ((2 : Int) ^ n))) x) y
def gLess (S : St) (x y : Lin) (n : Nat) : St × Lin := (gBits S (lessX S.p n x y) (n + 1), gNot S.p [(S.vars + (n : Int), 1)])