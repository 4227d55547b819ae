/- Gadgets: SameLinear, New, Input of the reference. -/
import Derived.Test.YtlgjnidphldiiaaQGadP
import Derived.Laws.StructEq
namespace Go.Proofs.Ytlgjnidphldiiaa
open Go.RowKit

end Go.Proofs.Ytlgjnidphldiiaa

/- Gadgets: awake of chapter 20. -/
namespace Go.Proofs.Ytlgjnidphldiiaa
open Go.RowKit

theorem Bld.cells {w : World} {base b : Nat} {S : St} {A : Nat → Prop} (h : Bld w base b S A) : ∃ cs, Blk w b cs 104 ∧ cs[0]? = some (.int .u64 S.p) ∧ cs[2]? = some (.int .i64 S.pub) ∧ cs[5]? = some (.int .i64 S.sec) := by
  obtain ⟨vr, R, vh, H, h⟩ := h
  exact ⟨_, h.blk, rfl, rfl, rfl⟩
end Go.Proofs.Ytlgjnidphldiiaa
