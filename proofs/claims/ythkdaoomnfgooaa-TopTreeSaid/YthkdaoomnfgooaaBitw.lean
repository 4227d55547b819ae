/- Shifts and single bits of small numbers. -/
import Derived.Test.YthkdaoomnfgooaaArith
import Derived.WalkKit
import Derived.Laws.BitsAllLaws
namespace Go.Proofs.Ythkdaoomnfgooaa
open Go.RowKit

theorem run_shl1 {P : Program} (d : Nat) (hd : d ≤ 40) (W : World) : (Op.shift .shl .i64 1 .i64 (d : Int)).run P W = .ok (.int .i64 ((2 ^ d : Nat) : Int)) W := by
  have h3 : 2 ^ d ≤ 2 ^ 40 := Nat.pow_le_pow_right (by decide) hd
  have h4 : IntKind.i64.wrap ((2 : Int) ^ d) = ((2 ^ d : Nat) : Int) := by
    rw [IntKind.wrap_i64]
    have e : ((2 : Int) ^ d) = ((2 ^ d : Nat) : Int) := (Int.natCast_pow 2 d).symm
    rw [e]
    generalize 2 ^ d = M at *
    omega
  simp [h4]

theorem run_shr {P : Program} (c i : Nat) (hi : i ≤ 60) (W : World) : (Op.shift .shr .i64 (c : Int) .i64 (i : Int)).run P W = .ok (.int .i64 ((c / 2 ^ i : Nat) : Int)) W := by
  simp

theorem ofInt_i64 (a : Nat) (ha : a < 9223372036854775808) : (BitVec.ofInt 64 (a : Int)).toNat = a := by
  rw [BitVec.ofInt_natCast, BitVec.toNat_ofNat]; exact Nat.mod_eq_of_lt (by omega)
theorem bit_and1 (q : Nat) (hq : q < 9223372036854775808) : bits .and .i64 (q : Int) 1 = ((q % 2 : Nat) : Int) := by
  have h1 : bits .and .i64 (q : Int) ((1 : Nat) : Int) = ((q &&& 1 : Nat) : Int) := by
    have hx : q &&& 1 < 2 ^ 63 := Nat.and_lt_two_pow _ (by decide)
    show IntKind.i64.wrap ((BitVec.ofInt 64 (q : Int) &&& BitVec.ofInt 64 ((1 : Nat) : Int)).toNat : Int) = _
    rw [BitVec.toNat_and, ofInt_i64 q hq, ofInt_i64 1 (by decide), IntKind.wrap_i64]
    omega
  rw [Nat.and_one_is_mod] at h1
  exact h1

end Go.Proofs.Ythkdaoomnfgooaa
