/- Equality of states; the reference's reduction; the examples of the chapter hold. -/
import Derived.Test.YtlgjnidphldiiaaPermB
import Derived.ProofKit
import Derived.OpenShut
namespace Go.Proofs.Ytlgjnidphldiiaa
open Go.RowKit

theorem Try.part0 (x0 x1 x2 : Value) (w : World) : (part 22 #[x0, x1, x2] 0).run Try.prog w = .ok x0 w := by kernel_rfl
theorem Try.part1 (x0 x1 x2 : Value) (w : World) : (part 22 #[x0, x1, x2] 1).run Try.prog w = .ok x1 w := by kernel_rfl
theorem Try.part2 (x0 x1 x2 : Value) (w : World) : (part 22 #[x0, x1, x2] 2).run Try.prog w = .ok x2 w := by kernel_rfl

theorem eq3D (D : Nat) (hD : ∀ a b w, (Op.equalIn D 22 (.int .u64 a) (.int .u64 b)).run Try.prog w = .ok (a == b) w) (a b c x y z : Int) (w : World) :
    (Op.equalIn (D + 1) 112 (.agg #[.int .u64 a, .int .u64 b, .int .u64 c]) (.agg #[.int .u64 x, .int .u64 y, .int .u64 z])).run Try.prog w = .ok (a == x && (b == y && c == z)) w := by
  have hu := Try.underlying112
  simp [Op.equalIn, run_underlying hu, List.range', Try.part0, Try.part1, Try.part2, hD]
  by_cases h1 : a = x <;> by_cases h2 : b = y <;> by_cases h3 : c = z <;> simp [h1, h2, h3]

/-- Are two states equal? -/
def eq3 (a b c x y z : Int) : Bool := a == x && (b == y && c == z)

@[go_sem] theorem run_equalIn3 (a b c x y z : Int) (w : World) :
    (Op.equalIn 10000 112 (.agg #[.int .u64 a, .int .u64 b, .int .u64 c]) (.agg #[.int .u64 x, .int .u64 y, .int .u64 z])).run Try.prog w = .ok (eq3 a b c x y z) w :=
  eq3D 9999 (fun a b w => run_equalIn_int w 9998 22 .u64 .u64 a b Try.underlying22) a b c x y z w

theorem eq3_self (a b c : Int) : eq3 a b c a b c = true := by simp [eq3]
theorem eq3_iff (s t : T3) : eq3 s.a s.b s.c t.a t.b t.c = decide (s.a = t.a ∧ s.b = t.b ∧ s.c = t.c) := by
  unfold eq3
  rw [Bool.eq_iff_iff]
  simp

theorem ex0 : fconst 17 0 0 = 15 := by decide
theorem ex1 : fconst 17 0 1 = 12 := by decide
theorem ex2 : fconst 17 0 2 = 10 := by decide
theorem ex3 : mix 17 ⟨1, 2, 3⟩ = ⟨7, 8, 9⟩ := by decide +kernel

end Go.Proofs.Ytlgjnidphldiiaa
