/- Plain arithmetic of the seven primes, over the integers: no program is named here. -/
import Derived.WalkKit
namespace Go.Proofs.YtalmgeefkcebdaaGreatDoor

/-- A fact kept from the walk. -/
theorem hide {p : Prop} (h : p) : Go.RowKit.Hid p := h

/-- Is p one of the known primes? -/
def vld (p : Int) : Bool := p == 18446744069414584321 || p == 17 || p == 97 || p == 193 || p == 257 || p == 12289 || p == 65537

theorem vld_cases {p : Int} (h : vld p = true) : p = 18446744069414584321 ∨ p = 17 ∨ p = 97 ∨ p = 193 ∨ p = 257 ∨ p = 12289 ∨ p = 65537 := by
  simpa [vld, or_assoc] using h

theorem vld_pos {p : Int} (h : vld p = true) : 17 ≤ p ∧ p ≤ 18446744069414584321 := by
  rcases vld_cases h with h | h | h | h | h | h | h <;> subst h <;> decide

def fred (p n : Int) : Int := if vld p then n % p else 0
def fadd (p a b : Int) : Int := if vld p then (a + b) % p else 0
def fneg (p a : Int) : Int := if vld p then (-a) % p else 0
def fmul (p a b : Int) : Int := if vld p then (a * b) % p else 0
def fpow (p a e : Int) : Int := if vld p then a ^ e.toNat % p else 0
def finv (p a : Int) : Int := if vld p then a ^ (p - 2).toNat % p else 0
theorem mod_lt' {p : Int} (h : 0 < p) (n : Int) : 0 ≤ n % p ∧ n % p < p := ⟨Int.emod_nonneg _ (by omega), Int.emod_lt_of_pos _ h⟩

theorem if_bd {p : Int} (c : Bool) (hc : c = true → 0 < p ∧ p ≤ 18446744069414584321) (n : Int) : 0 ≤ (if c then n % p else 0) ∧ (if c then n % p else 0) < 18446744073709551616 := by
  cases c
  · simp
  · have := mod_lt' (hc rfl).1 n
    simp only [if_true]
    exact ⟨this.1, by have := (hc rfl).2; omega⟩

theorem fred_bd (p n : Int) : 0 ≤ fred p n ∧ fred p n < 18446744073709551616 := if_bd _ (fun h => by have := vld_pos h; omega) _
theorem fadd_bd (p a b : Int) : 0 ≤ fadd p a b ∧ fadd p a b < 18446744073709551616 := if_bd _ (fun h => by have := vld_pos h; omega) _
theorem fneg_bd (p a : Int) : 0 ≤ fneg p a ∧ fneg p a < 18446744073709551616 := if_bd _ (fun h => by have := vld_pos h; omega) _
theorem fmul_bd (p a b : Int) : 0 ≤ fmul p a b ∧ fmul p a b < 18446744073709551616 := if_bd _ (fun h => by have := vld_pos h; omega) _
theorem fpow_bd (p a e : Int) : 0 ≤ fpow p a e ∧ fpow p a e < 18446744073709551616 := if_bd _ (fun h => by have := vld_pos h; omega) _
theorem finv_bd (p a : Int) : 0 ≤ finv p a ∧ finv p a < 18446744073709551616 := if_bd _ (fun h => by have := vld_pos h; omega) _
end Go.Proofs.YtalmgeefkcebdaaGreatDoor

