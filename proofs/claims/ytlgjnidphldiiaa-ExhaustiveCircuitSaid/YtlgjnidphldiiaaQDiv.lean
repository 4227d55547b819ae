/- The school method of dividing two words by one, over the natural numbers: no program is named here. -/
import Derived.WalkKit
import Derived.Lib.ItoaNum
namespace Go.Proofs.Ytlgjnidphldiiaa
namespace Dv

theorem expand (q y : Nat) : q * y = q * (y / 4294967296) * 4294967296 + q * (y % 4294967296) := by
  have h := Nat.div_add_mod y 4294967296
  have : q * y = q * (4294967296 * (y / 4294967296) + y % 4294967296) := by rw [h]
  rw [this, Nat.mul_add, Nat.mul_comm 4294967296, Nat.mul_assoc]

/-- What holds of a guess q and its rest r. -/
structure Inv (y u1 u0 q r : Nat) : Prop where
  e : q * (y / 4294967296) + r = u1
  le : (u1 * 4294967296 + u0) / y ≤ q

theorem start {y u1 u0 : Nat} (hy : 9223372036854775808 ≤ y) (h0 : u0 < 4294967296) : Inv y u1 u0 (u1 / (y / 4294967296)) (u1 % (y / 4294967296)) := by
  refine ⟨by rw [Nat.mul_comm]; exact Nat.div_add_mod _ _, ?_⟩
  have hpos : 0 < y / 4294967296 := by omega
  rw [Nat.le_div_iff_mul_le hpos]
  have h1 := Nat.div_mul_le_self (u1 * 4294967296 + u0) y
  have h2 := expand ((u1 * 4294967296 + u0) / y) y
  omega

theorem lt_of {y u q : Nat} (h : u < q * y) : u / y < q := by
  by_cases hy : y = 0
  · subst hy; omega
  · exact (Nat.div_lt_iff_lt_mul (by omega)).2 h

theorem down {y u1 u0 q r : Nat} (hu : u1 < y) (h0 : u0 < 4294967296) (I : Inv y u1 u0 q r) (h : 4294967296 ≤ q ∨ 4294967296 * r + u0 < q * (y % 4294967296)) :
    1 ≤ q ∧ Inv y u1 u0 (q - 1) (r + y / 4294967296) := by
  have hlt : (u1 * 4294967296 + u0) / y < q := by
    rcases h with h | h
    · refine Nat.lt_of_lt_of_le (lt_of (q := 4294967296) ?_) h
      omega
    · refine lt_of ?_
      have h2 := expand q y
      have h3 := I.e
      omega
  have h1 : 1 ≤ q := Nat.lt_of_le_of_lt (Nat.zero_le _) hlt
  refine ⟨h1, ?_, Nat.le_sub_one_of_lt hlt⟩
  have h3 := I.e
  obtain ⟨k, rfl⟩ : ∃ k, q = k + 1 := ⟨q - 1, by omega⟩
  rw [Nat.add_mul] at h3
  simp only [Nat.add_sub_cancel]
  omega

theorem le_of {y u q : Nat} (hy : 0 < y) (h : q * y ≤ u) : q ≤ u / y := (Nat.le_div_iff_mul_le hy).2 h

theorem fin {y u1 u0 q r : Nat} (hy : 0 < y) (I : Inv y u1 u0 q r) (h : q * (y % 4294967296) ≤ 4294967296 * r + u0) : q = (u1 * 4294967296 + u0) / y := by
  refine Nat.le_antisymm (le_of hy ?_) I.le
  have h2 := expand q y
  have h3 := I.e
  omega

theorem small {y u1 u0 q r : Nat} (hu : u1 < y) (I : Inv y u1 u0 q r) (hr : 4294967296 ≤ r) : q < 4294967296 := by
  have h3 := I.e
  have : q * (y / 4294967296) < 4294967296 * (y / 4294967296) := by omega
  exact Nat.lt_of_mul_lt_mul_right this

theorem brk {y u1 u0 q r : Nat} (hu : u1 < y) (I : Inv y u1 u0 q r) (hr : 4294967296 ≤ r) (hy : 9223372036854775808 ≤ y) : q = (u1 * 4294967296 + u0) / y := by
  have hs := small hu I hr
  refine fin (by omega) I ?_
  have : q * (y % 4294967296) ≤ 4294967296 * 4294967296 := Nat.mul_le_mul (by omega) (by omega)
  omega

theorem guess_lt {y u1 u0 q r : Nat} (hu : u1 < 18446744073709551616) (hy : 9223372036854775808 ≤ y) (I : Inv y u1 u0 q r) : q ≤ 8589934592 := by
  have h3 := I.e
  have h4 : q * 2147483648 ≤ q * (y / 4294967296) := Nat.mul_le_mul_left _ (by omega)
  omega

/-- The step from one digit to the next. -/
theorem rest {y u1 u0 : Nat} (hy : y < 18446744073709551616) (hy' : 0 < y) (M : Nat) (hM : M = 18446744073709551616) :
    ((u1 * 4294967296 % M + u0) % M + M - ((u1 * 4294967296 + u0) / y * y) % M) % M = (u1 * 4294967296 + u0) % y := by
  subst hM
  have h1 := Nat.div_add_mod (u1 * 4294967296 + u0) y
  rw [Nat.mul_comm] at h1
  have h2 := Nat.mod_lt (u1 * 4294967296 + u0) hy'
  omega

theorem two_digits' (B : Nat) {y u1 u0 un : Nat} (hy : 0 < y) :
    (un * B + u1) / y * B + ((un * B + u1) % y * B + u0) / y = ((un * B + u1) * B + u0) / y ∧
    ((un * B + u1) % y * B + u0) % y = ((un * B + u1) * B + u0) % y := by
  have h1 := Nat.div_add_mod (un * B + u1) y
  have e : (un * B + u1) * B + u0 = ((un * B + u1) % y * B + u0) + y * ((un * B + u1) / y * B) := by
    conv => lhs; rw [← h1]
    rw [Nat.add_mul, Nat.mul_assoc, Nat.add_assoc, Nat.add_comm]
  rw [e, Nat.add_mul_div_left _ _ hy, Nat.add_mul_mod_self_left]
  exact ⟨Nat.add_comm _ _, rfl⟩

/-- Two digits of a division, of numbers that are shifted. -/
theorem two_digits {y U u1 u0 un : Nat} (hy : 0 < y) (hU : U = (un * 4294967296 + u1) * 4294967296 + u0) :
    (un * 4294967296 + u1) / y * 4294967296 + ((un * 4294967296 + u1) % y * 4294967296 + u0) / y = U / y ∧
    ((un * 4294967296 + u1) % y * 4294967296 + u0) % y = U % y := by
  rw [hU]; exact two_digits' _ hy

theorem shift_div (U y s : Nat) : (U * 2 ^ s) / (y * 2 ^ s) = U / y ∧ (U * 2 ^ s) % (y * 2 ^ s) = U % y * 2 ^ s :=
  ⟨Nat.mul_div_mul_right _ _ (Nat.two_pow_pos s), Nat.mul_mod_mul_right _ _ _⟩

/-- The leading zeros of y. -/
theorem norm {y : Nat} (h : 0 < y) (hy : y < 18446744073709551616) : Lib.bitLen y ≤ 64 ∧ 9223372036854775808 ≤ y * 2 ^ (64 - Lib.bitLen y) ∧ y * 2 ^ (64 - Lib.bitLen y) < 18446744073709551616 := by
  have hb := Lib.bitLenAux_bounds 64 y (by simpa using hy) (by omega)
  have hle : Lib.bitLenAux 64 y ≤ 64 := by
    rcases Nat.lt_or_ge 64 (Lib.bitLenAux 64 y) with h1 | h1
    · have := Nat.pow_le_pow_right (n := 2) (by omega) (show 64 ≤ Lib.bitLenAux 64 y - 1 by omega)
      omega
    · exact h1
  unfold Lib.bitLen
  generalize Lib.bitLenAux 64 y = L at *
  refine ⟨hle, ?_, ?_⟩
  · have h1 : 2 ^ (L - 1) * 2 ^ (64 - L) ≤ y * 2 ^ (64 - L) := Nat.mul_le_mul_right _ hb.2.1
    rw [← Nat.pow_add, show L - 1 + (64 - L) = 63 by omega] at h1
    simpa using h1
  · have h1 : y * 2 ^ (64 - L) < 2 ^ L * 2 ^ (64 - L) := Nat.mul_lt_mul_of_pos_right hb.2.2 (Nat.two_pow_pos _)
    rw [← Nat.pow_add, show L + (64 - L) = 64 by omega] at h1
    simpa using h1

end Dv
end Go.Proofs.Ytlgjnidphldiiaa
