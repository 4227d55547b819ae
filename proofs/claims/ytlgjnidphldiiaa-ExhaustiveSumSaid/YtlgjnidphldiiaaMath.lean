/- Plain arithmetic: powers by squaring, the inverse of 4, unmixing undoes mixing and the other way round. -/
import Derived.Test.YtlgjnidphldiiaaPermX
namespace Go.Proofs.Ytlgjnidphldiiaa

/-- Powers by squaring. -/
def pw (p : Int) : Nat → Int → Int → Int → Int
  | 0, _, r, _ => r
  | f + 1, x, r, e => if e ≤ 0 then r else pw p f (x * x % p) (if e % 2 = 1 then r * x % p else r) (e / 2)

theorem pw_eq (p : Int) : ∀ (f : Nat) (x r e : Int), 0 ≤ e → e < 2 ^ f → pw p f x r e % p = r * x ^ e.toNat % p
  | 0, x, r, e, h0, h1 => by
    have : e = 0 := by simp at h1; omega
    subst this
    simp [pw]
  | f + 1, x, r, e, h0, h1 => by
    unfold pw
    split
    · have : e = 0 := by omega
      subst this
      simp
    · rename_i he
      rw [pw_eq p f _ _ _ (by omega) (by rw [Int.pow_succ] at h1; omega), ← pow_step p x r e (by omega)]

theorem pow_eq_pw (p x e : Int) (f : Nat) (h0 : 0 ≤ e) (h1 : e < 2 ^ f) : x ^ e.toNat % p = pw p f x 1 e % p := by
  rw [pw_eq p f x 1 e h0 h1, Int.one_mul]

/-- 4 times its inverse is 1. -/
theorem inv4 {p : Int} (h : vld p = true) : 4 * finv p 4 % p = 1 := by
  have hp := vld_pos h
  rw [finv, if_pos h, pow_eq_pw p 4 (p - 2) 64 (by omega) (by omega)]
  rcases vld_cases h with rfl | rfl | rfl | rfl | rfl | rfl | rfl <;> decide +kernel

theorem one_more {p : Int} (h : vld p = true) : ∃ k, 4 * finv p 4 = 1 + p * k := by
  have := Int.mul_ediv_add_emod (4 * finv p 4) p
  rw [inv4 h] at this
  exact ⟨4 * finv p 4 / p, by omega⟩

theorem cancel (p x y k : Int) : (x + y - y * (1 + p * k)) % p = x % p := by
  rw [show x + y - y * (1 + p * k) = x + p * (-(y * k)) by rw [Int.mul_add, Int.mul_one, Int.mul_neg, Int.mul_left_comm]; omega]
  exact Int.add_mul_emod_self_left _ _ _

theorem sum3_valid {p : Int} (h : vld p = true) (s : T3) : sum3 p s = (s.a + s.b + s.c) % p := by
  unfold sum3
  rw [fadd_eq h, fadd_eq h, Int.emod_add_emod]

theorem dvd_em {p : Int} : p ∣ p := Int.dvd_refl p

theorem fdiv_valid {p : Int} (h : vld p = true) (x : Int) : fdiv p x 4 = x * finv p 4 % p := by
  unfold fdiv
  rw [fmul_eq h]

theorem fsub_valid {p : Int} (h : vld p = true) (x y : Int) : fsub p x y = (x - y) % p := by rw [fsub, if_pos h]
theorem fred_valid {p : Int} (h : vld p = true) (x : Int) : fred p x = x % p := by rw [fred, if_pos h]

theorem invalid_zero {p : Int} (h : vld p = false) : (∀ x, fred p x = 0) ∧ (∀ x y, fadd p x y = 0) ∧ (∀ x y, fsub p x y = 0) ∧ (∀ x y, fmul p x y = 0) := by
  refine ⟨fun x => ?_, fun x y => ?_, fun x y => ?_, fun x y => ?_⟩ <;> simp [fred, fadd, fsub, fmul, h]

theorem three_mod (p x y z : Int) : (x % p + y % p + z % p) % p = (x + y + z) % p := by
  rw [Int.emod_def x, Int.emod_def y, Int.emod_def z]
  rw [show x - p * (x / p) + (y - p * (y / p)) + (z - p * (z / p)) = x + y + z + p * (-(x / p) - y / p - z / p) by rw [Int.mul_sub, Int.mul_sub, Int.mul_neg]; omega]
  exact Int.add_mul_emod_self_left _ _ _

theorem unmix_mix (p : Int) (s : T3) : unmix p (mix p s) = red3 p s := by
  cases hv : vld p with
  | false =>
    obtain ⟨h1, h2, h3, _⟩ := invalid_zero hv
    simp [unmix, red3, h1, h3]
  | true =>
    obtain ⟨k, hk⟩ := one_more hv
    have hs : sum3 p (mix p s) = (4 * (s.a + s.b + s.c)) % p := by
      rw [sum3_valid hv]
      unfold mix
      simp only [fadd_eq hv, sum3_valid hv]
      rw [three_mod]
      rw [show s.a + (s.a + s.b + s.c) % p + (s.b + (s.a + s.b + s.c) % p) + (s.c + (s.a + s.b + s.c) % p) = (s.a + s.b + s.c) + 3 * ((s.a + s.b + s.c) % p) by omega]
      rw [Int.add_emod, Int.mul_emod, Int.emod_emod_of_dvd _ dvd_em, ← Int.mul_emod, ← Int.add_emod]
      congr 1
      omega
    have hd : fdiv p (sum3 p (mix p s)) 4 = (s.a + s.b + s.c) * (1 + p * k) % p := by
      rw [fdiv_valid hv, hs, Int.mul_emod, Int.emod_emod_of_dvd _ dvd_em, ← Int.mul_emod, ← hk]
      congr 1
      rw [Int.mul_comm 4, Int.mul_assoc]
    unfold unmix
    rw [hd]
    unfold mix red3
    simp only [fadd_eq hv, fsub_valid hv, fred_valid hv, sum3_valid hv]
    have key : ∀ x, ((x + (s.a + s.b + s.c) % p) % p - (s.a + s.b + s.c) * (1 + p * k) % p) % p = x % p := fun x => by
      rw [Int.add_emod_emod, ← Int.sub_emod, cancel]
    rw [key, key, key]

theorem mix_unmix (p : Int) (s : T3) : mix p (unmix p s) = red3 p s := by
  cases hv : vld p with
  | false =>
    obtain ⟨h1, h2, h3, _⟩ := invalid_zero hv
    simp [mix, red3, h1, h2]
  | true =>
    obtain ⟨k, hk⟩ := one_more hv
    obtain ⟨d, hd⟩ : ∃ d, d = fdiv p (sum3 p s) 4 := ⟨_, rfl⟩
    have hd4 : ∃ m, 4 * d = (s.a + s.b + s.c) + p * m := by
      have h1 : (4 * d) % p = (s.a + s.b + s.c) % p := by
        rw [hd, fdiv_valid hv, sum3_valid hv, Int.mul_emod, Int.emod_emod_of_dvd _ dvd_em, ← Int.mul_emod, Int.mul_left_comm, hk, Int.mul_add, Int.mul_one, Int.mul_left_comm, Int.add_mul_emod_self_left, Int.emod_emod_of_dvd _ dvd_em]
      have h2 := Int.mul_ediv_add_emod (4 * d) p
      have h3 := Int.mul_ediv_add_emod (s.a + s.b + s.c) p
      refine ⟨4 * d / p - (s.a + s.b + s.c) / p, ?_⟩
      rw [Int.mul_sub]
      omega
    obtain ⟨m, hm⟩ := hd4
    unfold mix unmix red3
    rw [← hd]
    simp only [fadd_eq hv, fsub_valid hv, fred_valid hv, sum3_valid hv]
    have hsum : ((s.a - d) % p + (s.b - d) % p + (s.c - d) % p) % p = (s.a + s.b + s.c - 3 * d) % p := by
      rw [three_mod]
      congr 1
      omega
    have key : ∀ x, ((x - d) % p + (s.a + s.b + s.c - 3 * d) % p) % p = x % p := fun x => by
      rw [← Int.add_emod, show x - d + (s.a + s.b + s.c - 3 * d) = x + p * (-m) by rw [Int.mul_neg]; omega, Int.add_mul_emod_self_left]
    rw [hsum, key, key, key]

end Go.Proofs.Ytlgjnidphldiiaa
