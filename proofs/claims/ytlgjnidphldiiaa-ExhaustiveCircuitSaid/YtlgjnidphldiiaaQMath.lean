/- Plain arithmetic: powers by squaring, the inverse of 4, unmixing undoes mixing and the other way round. -/
import Derived.Test.YtlgjnidphldiiaaQPermX
namespace Go.Proofs.Ytlgjnidphldiiaa

theorem cancel (p x y k : Int) : (x + y - y * (1 + p * k)) % p = x % p := by
  rw [show x + y - y * (1 + p * k) = x + p * (-(y * k)) by rw [Int.mul_add, Int.mul_one, Int.mul_neg, Int.mul_left_comm]; omega]
  exact Int.add_mul_emod_self_left _ _ _

theorem fred_valid {p : Int} (h : vld p = true) (x : Int) : fred p x = x % p := by rw [fred, if_pos h]

end Go.Proofs.Ytlgjnidphldiiaa
