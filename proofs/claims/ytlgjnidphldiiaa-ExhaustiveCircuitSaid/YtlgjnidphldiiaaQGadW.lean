/- GadgetLinear: the parameter's test, and the equalities. -/
import Derived.Test.YtlgjnidphldiiaaQGadVX
import Derived.Test.YtlgjnidphldiiaaQGadU
namespace Go.Proofs.Ytlgjnidphldiiaa
open Go.RowKit

/-- The program's answers are the reference's. -/
theorem lin_same {p n : Int} {x y : Lin} (hx : vld p = true → CoefOk p x) (hy : vld p = true → CoefOk p y) :
    addP p x y 1 = (if vld p then radd p x y else []) ∧ addP p x y (fneg p 1) = (if vld p then radd p x (rscale p y (p - 1)) else []) ∧ addP p [] x n = (if vld p then rscale p x n else []) := by
  unfold addP
  cases hv : vld p with
  | false => exact ⟨rfl, rfl, rfl⟩
  | true =>
    simp only [if_true]
    refine ⟨comb_add hv x y (hx hv) (hy hv), ?_, comb_scale p n x⟩
    rw [fneg_one hv, comb_sub hv x y (hx hv) (hy hv), rscale_neg hv (hy hv)]
end Go.Proofs.Ytlgjnidphldiiaa
