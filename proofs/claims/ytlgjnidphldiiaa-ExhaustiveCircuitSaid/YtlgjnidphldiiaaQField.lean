/- The contracts of the field's functions: what each returns, and that it changes nothing that was there. -/
import Derived.Test.YtlgjnidphldiiaaRows
import Derived.Test.YtlgjnidphldiiaaQArith
import Derived.Test.YtlgjnidphldiiaaQRelX
import Derived.WalkSpells
import Derived.WalkLawsBesides
namespace Go.Proofs.Ytlgjnidphldiiaa
open Go.RowKit

theorem ret_int {k : IntKind} {a b : Int} (h : a = b) : Ending.returned (.int k a) = .returned (.int k b) := by rw [h]

theorem Try.mixed : Try.prog.follows .mixedOrders = true := by kernel_rfl

set_option maxHeartbeats 400000 in
theorem valid_any (p : Int) (w : World) :
    Calls Try.prog 68 #[.agg #[.int .u64 p]] w fun e w' => e = .returned (.bool (vld p)) ∧ Below w.heap.size w w' := by
  go_enter Try.func68, Try.ntmps68
  go_wp2
  all_goals
    go_ret
    exact ⟨by simp_all [vld], (Below.refl _ _).alloc (Nat.le_refl _) _⟩

set_option maxHeartbeats 400000 in
theorem reduced_any (p n : Int) (w : World) (h0 : 0 < p) (h1 : p < 18446744073709551616) (g0 : 0 ≤ n) (g1 : n < 18446744073709551616) :
    Calls Try.prog 112 #[.agg #[.int .u64 p], .int .u64 n] w fun e w' => e = .returned (.int .u64 (n % p)) ∧ Below w.heap.size w w' := by
  go_enter Try.func112, Try.ntmps112
  go_wp2
  · go_ret
    exact ⟨rfl, (Below.refl _ _).alloc (Nat.le_refl _) _⟩
  · go_ret
    exact ⟨ret_int (Int.emod_eq_of_lt g0 (by omega)).symm, (Below.refl _ _).alloc (Nat.le_refl _) _⟩

end Go.Proofs.Ytlgjnidphldiiaa
