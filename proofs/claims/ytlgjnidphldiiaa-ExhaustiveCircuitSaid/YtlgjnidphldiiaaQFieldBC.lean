/- The contracts of the field's arithmetic on reduced elements, and of its exported functions. -/
import Derived.Test.YtlgjnidphldiiaaQBits
namespace Go.Proofs.Ytlgjnidphldiiaa
open Go.RowKit

/-- The world that the walk has come to, under a name. -/
theorem name_world {P : Program} {c : Code} {Q : Exit → Act → World → Prop} {a : Act} {w0 : World} (h : ∀ W, W = w0 → c.wp P Q a W) : c.wp P Q a w0 := h _ rfl

set_option maxHeartbeats 400000 in
theorem add_any (p a b : Int) (w : World) (h0 : 0 < p) (h1 : p ≤ 18446744069414584321) (a0 : 0 ≤ a) (a1 : a < p) (b0 : 0 ≤ b) (b1 : b < p) :
    Calls Try.prog 111 #[.agg #[.int .u64 p], .int .u64 a, .int .u64 b] w fun e w' => e = .returned (.int .u64 ((a + b) % p)) ∧ Below w.heap.size w w' := by
  have k := add64_0 a b a0 b0
  by_cases hc : a + b < 18446744073709551616
  · have q1 : (a + b) % 18446744073709551616 = a + b := Int.emod_eq_of_lt (by omega) hc
    have q2 : (a + b) / 18446744073709551616 = 0 := by omega
    simp only [q1, q2] at k
    by_cases hp : p ≤ a + b
    · have q3 : (a + b) % p = a + b - p := by rw [← Int.sub_emod_right, Int.emod_eq_of_lt (by omega) (by omega)]
      have Q3 := hide q3
      clear q1 q2 q3
      go_enter Try.func111, Try.ntmps111
      go_wp2_with (simp only [k])
      go_ret
      exact ⟨ret_int Q3.out.symm, (Below.refl _ _).alloc (Nat.le_refl _) _⟩
    · have q3 : (a + b) % p = a + b := Int.emod_eq_of_lt (by omega) (by omega)
      have Q3 := hide q3
      clear q1 q2 q3
      go_enter Try.func111, Try.ntmps111
      go_wp2_with (simp only [k])
      go_ret
      exact ⟨ret_int Q3.out.symm, (Below.refl _ _).alloc (Nat.le_refl _) _⟩
  · have q1 : (a + b) % 18446744073709551616 = a + b - 18446744073709551616 := by omega
    have q2 : (a + b) / 18446744073709551616 = 1 := by omega
    simp only [q1, q2] at k
    have q3 : (a + b) % p = a + b - p := by rw [← Int.sub_emod_right, Int.emod_eq_of_lt (by omega) (by omega)]
    have q4 : IntKind.u64.wrap (a + b - 18446744073709551616 - p) = a + b - p := by rw [IntKind.wrap_u64]; omega
    have Q3 := hide q3
    clear q1 q2 q3
    go_enter Try.func111, Try.ntmps111
    go_wp2_with (simp only [k])
    go_ret
    exact ⟨ret_int Q3.out.symm, (Below.refl _ _).alloc (Nat.le_refl _) _⟩

theorem mul64_int (a b : Int) (w : World) (a0 : 0 ≤ a) (a1 : a < 18446744073709551616) (b0 : 0 ≤ b) (b1 : b < 18446744073709551616) :
    Calls Try.prog 109 #[.int .u64 a, .int .u64 b] w fun e w' => ∃ h l : Int, e = .returned (.tuple #[.int .u64 h, .int .u64 l]) ∧ 0 ≤ h ∧ 0 ≤ l ∧ l < 18446744073709551616 ∧ h * 18446744073709551616 + l = a * b ∧ w = w' := by
  obtain ⟨x, rfl⟩ := Int.eq_ofNat_of_zero_le a0
  obtain ⟨y, rfl⟩ := Int.eq_ofNat_of_zero_le b0
  refine (Try.bits_Mul64 x y (by omega) (by omega) w).mono ?_
  rintro e w' ⟨rfl, rfl⟩
  refine ⟨_, _, rfl, by omega, by omega, by omega, ?_, rfl⟩
  have e1 : ((x * y : Nat) : Int) = (x : Int) * (y : Int) := Int.natCast_mul _ _
  rw [← e1]
  omega

theorem div64_int (h l y : Int) (w : World) (h0 : 0 ≤ h) (h1 : h < y) (h2 : y < 18446744073709551616) (l0 : 0 ≤ l) (l1 : l < 18446744073709551616) :
    Calls Try.prog 110 #[.int .u64 h, .int .u64 l, .int .u64 y] w fun e w' =>
      e = .returned (.tuple #[.int .u64 ((h * 18446744073709551616 + l) / y), .int .u64 ((h * 18446744073709551616 + l) % y)]) ∧ Below w.heap.size w w' := by
  obtain ⟨x, rfl⟩ := Int.eq_ofNat_of_zero_le h0
  obtain ⟨z, rfl⟩ := Int.eq_ofNat_of_zero_le l0
  obtain ⟨v, rfl⟩ := Int.eq_ofNat_of_zero_le (show 0 ≤ y by omega)
  have h := div64_any x z v w (by omega) (by omega) (by omega)
  rw [Int.natCast_ediv, Int.natCast_emod, Int.natCast_add, Int.natCast_mul] at h
  exact h

theorem hi_lt {a b h l p : Int} (a0 : 0 ≤ a) (a1 : a < p) (b1 : b < 18446744073709551616) (l0 : 0 ≤ l) (e : h * 18446744073709551616 + l = a * b) : h < p := by
  have : a * b ≤ a * 18446744073709551615 := Int.mul_le_mul_of_nonneg_left (by omega) a0
  omega

set_option maxHeartbeats 400000 in
theorem mul_any (p a b : Int) (w : World) (h0 : 0 < p) (h1 : p ≤ 18446744069414584321) (a0 : 0 ≤ a) (a1 : a < p) (b0 : 0 ≤ b) (b1 : b < p) :
    Calls Try.prog 113 #[.agg #[.int .u64 p], .int .u64 a, .int .u64 b] w fun e w' => e = .returned (.int .u64 (a * b % p)) ∧ Below w.heap.size w w' := by
  go_enter Try.func113, Try.ntmps113
  go_wp2_with fail
  refine (mul64_int a b _ a0 (by omega) b0 (by omega)).mono ?_
  rintro e w' ⟨h, l, rfl, c0, c1, c2, ce, rfl⟩
  have c3 : h < p := hi_lt a0 a1 (by omega) c1 ce
  have Hc := hide ce
  clear ce
  go_wp2_with fail
  refine (div64_int h l p _ c0 c3 (by omega) c1 c2).mono ?_
  rintro e w' ⟨rfl, hb⟩
  go_wp2
  go_ret
  exact ⟨ret_int (by rw [Hc.out]), ((Below.refl _ _).alloc (Nat.le_refl _) _).trans (hb.mono (by simp))⟩

theorem pow_step (p x r e : Int) (he : 0 < e) :
    (r * x ^ e.toNat) % p = ((if e % 2 = 1 then r * x % p else r) * (x * x % p) ^ (e / 2).toNat) % p := by
  have e1 : e.toNat = 2 * (e / 2).toNat + (e % 2).toNat := by omega
  have e2 : x ^ e.toNat = (x * x) ^ (e / 2).toNat * x ^ (e % 2).toNat := by
    rw [e1, Int.pow_add, Int.pow_mul]
    congr 1
    rw [show x ^ 2 = x * x from by rw [Int.pow_succ, Int.pow_succ, Int.pow_zero, Int.one_mul]]
  have e3 : ∀ k : Nat, (x * x % p) ^ k % p = (x * x) ^ k % p := by
    intro k
    induction k with
    | zero => simp
    | succ k ih => rw [Int.pow_succ, Int.pow_succ, Int.mul_emod, ih, Int.emod_emod_of_dvd _ (Int.dvd_refl p), ← Int.mul_emod]
  rw [e2]
  by_cases h : e % 2 = 1
  · rw [if_pos h, h]
    rw [Int.mul_emod (r * x % p), e3, Int.emod_emod_of_dvd _ (Int.dvd_refl p), ← Int.mul_emod]
    congr 1
    simp only [show (1 : Int).toNat = 1 from rfl, Int.pow_succ, Int.pow_zero, Int.one_mul]
    rw [Int.mul_comm ((x * x) ^ _), Int.mul_assoc]
  · rw [if_neg h, show e % 2 = 0 by omega]
    rw [show Int.toNat 0 = 0 from rfl, Int.pow_zero, Int.mul_one, Int.mul_emod r ((x * x) ^ _), ← e3, ← Int.mul_emod]

theorem pow_last (p x y r : Int) (e : Int) (he : ¬ 0 < e / 2) : (r * x ^ (e / 2).toNat) % p = (r * y ^ (e / 2).toNat) % p := by
  rw [show (e / 2).toNat = 0 by omega, Int.pow_zero, Int.pow_zero]

/-- What holds at the head of the loop of a power. -/
structure PowAt (p a e0 x r e : Int) (w wr : World) : Prop where
  x0 : 0 ≤ x
  x1 : x < p
  r0 : 0 ≤ r
  r1 : r < p
  n0 : 0 ≤ e
  n1 : e < 18446744073709551616
  h : r * x ^ e.toNat % p = a ^ e0.toNat % p
  b : Below w.heap.size w wr
  z : w.heap.size < wr.heap.size
  c : wr.cell? ⟨w.heap.size, 0, none⟩ = some (.int .u64 p)

theorem PowAt.next {p a e0 x r e x' r' : Int} {w wr w2 : World} (H : PowAt p a e0 x r e w wr) (hp : 0 < p) (he : 0 < e)
    (hr : r' = if e % 2 = 1 then r * x % p else r) (hx : (0 < e / 2 → x' = x * x % p) ∧ (¬ 0 < e / 2 → x' = x)) (hb : Below wr.heap.size wr w2) : PowAt p a e0 x' r' (e / 2) w w2 := by
  have h1 := pow_step p x r e he
  rw [← hr] at h1
  have hxx := mod_lt' hp (x * x)
  have hrx := mod_lt' hp (r * x)
  have hr' : 0 ≤ r' ∧ r' < p := by
    rw [hr]; split
    · exact hrx
    · exact ⟨H.r0, H.r1⟩
  refine ⟨?_, ?_, hr'.1, hr'.2, by have := H.n0; omega, by have := H.n1; omega, ?_, H.b.trans (hb.mono (by have := H.z; omega)), by have := hb.size; have := H.z; omega, ?_⟩
  · by_cases h : 0 < e / 2
    · rw [hx.1 h]; exact hxx.1
    · rw [hx.2 h]; exact H.x0
  · by_cases h : 0 < e / 2
    · rw [hx.1 h]; exact hxx.2
    · rw [hx.2 h]; exact H.x1
  · rw [← H.h, h1]
    by_cases h : 0 < e / 2
    · rw [hx.1 h]
    · exact pow_last p _ _ _ _ h
  · rw [hb.cell (by exact H.z)]; exact H.c

end Go.Proofs.Ytlgjnidphldiiaa

/- The contracts of the field's exported functions. -/
namespace Go.Proofs.Ytlgjnidphldiiaa
open Go.RowKit

theorem vld_no {p : Int} (h : ¬ vld p = true) : vld p = false := by simpa using h

theorem fadd_eq {p : Int} (h : vld p = true) (a b : Int) : fadd p a b = (a + b) % p := by rw [fadd, if_pos h]
theorem fmul_eq {p : Int} (h : vld p = true) (a b : Int) : fmul p a b = (a * b) % p := by rw [fmul, if_pos h]

/-- The first cell of the call's own first block, behind whatever has come. -/
theorem own_cell {w W w1 : World} {v : Value} {T : TypeId} (hW : W = w.alloc (.cells #[v] T)) (hb : Below W.heap.size W w1) : w1.cell? ⟨w.heap.size, 0, none⟩ = some v := by
  subst hW
  rw [hb.cell (by simp)]
  simp [go_sem]
theorem own_below {w W w1 : World} {v : Value} {T : TypeId} (hW : W = w.alloc (.cells #[v] T)) (hb : Below W.heap.size W w1) : Below w.heap.size w w1 := by
  subst hW
  exact ((Below.refl _ _).alloc (Nat.le_refl _) _).trans (hb.mono (by simp))
theorem below2 {w w1 w2 : World} (h : Below w.heap.size w w1) (h' : Below w1.heap.size w1 w2) : Below w.heap.size w w2 := h.trans (h'.mono h.size)

set_option maxHeartbeats 400000 in
theorem Add_any (p a b : Int) (w : World) (a0 : 0 ≤ a) (a1 : a < 18446744073709551616) (b0 : 0 ≤ b) (b1 : b < 18446744073709551616) :
    Calls Try.prog 79 #[.agg #[.int .u64 p], .int .u64 a, .int .u64 b] w fun e w' => e = .returned (.int .u64 (fadd p a b)) ∧ Below w.heap.size w w' := by
  go_enter Try.func79, Try.ntmps79
  by_cases hv : vld p = true
  · have hp := vld_pos hv
    have ha := mod_lt' (p := p) (by omega) a
    have hb := mod_lt' (p := p) (by omega) b
    have hr := fadd_eq hv a b
    have Hr := hide hr
    clear hr
    go_wp2_with fail
    refine (valid_any _ _).mono ?_
    rintro ew1 w1 ⟨rfl, hb1⟩
    have hc := own_cell rfl hb1
    have hb := own_below rfl hb1
    clear hb1
    have hc' := cell_later' hc
    go_wp2_with fail
    refine wp_region_later Try.mixed (by kernel_rfl) ?_
    repeat (quiet_step (first | (go_at_call 112; exact Calls.later_of (reduced_any _ _ _ (by omega) (by omega) (by omega) (by omega))) | (go_at_call 111; exact Calls.later_of (add_any _ _ _ _ (by omega) (by omega) (by omega) (by omega) (by omega) (by omega)))))
    refine wpQuiet_nil ?_
    intro w2 hb2
    replace hb2 := below_of_later hb2
    go_wp2
    go_ret
    exact ⟨ret_int Hr.out.symm, below2 hb hb2⟩
  · have hv := vld_no hv
    have hr : fadd p a b = 0 := by rw [fadd, hv]; rfl
    go_wp2_with fail
    refine (valid_any _ _).mono ?_
    rintro ew1 w1 ⟨rfl, hb1⟩
    have hb := own_below rfl hb1
    clear hb1
    go_wp2
    go_ret
    exact ⟨ret_int hr.symm, hb⟩

set_option maxHeartbeats 400000 in
theorem Mul_any (p a b : Int) (w : World) (a0 : 0 ≤ a) (a1 : a < 18446744073709551616) (b0 : 0 ≤ b) (b1 : b < 18446744073709551616) :
    Calls Try.prog 80 #[.agg #[.int .u64 p], .int .u64 a, .int .u64 b] w fun e w' => e = .returned (.int .u64 (fmul p a b)) ∧ Below w.heap.size w w' := by
  go_enter Try.func80, Try.ntmps80
  by_cases hv : vld p = true
  · have hp := vld_pos hv
    have ha := mod_lt' (p := p) (by omega) a
    have hb := mod_lt' (p := p) (by omega) b
    have hr : fmul p a b = (a % p * (b % p)) % p := by rw [fmul_eq hv, Int.mul_emod]
    have Hr := hide hr
    clear hr
    go_wp2_with fail
    refine (valid_any _ _).mono ?_
    rintro ew1 w1 ⟨rfl, hb1⟩
    have hc := own_cell rfl hb1
    have hb := own_below rfl hb1
    clear hb1
    have hc' := cell_later' hc
    go_wp2_with fail
    refine wp_region_later Try.mixed (by kernel_rfl) ?_
    repeat (quiet_step (first | (go_at_call 112; exact Calls.later_of (reduced_any _ _ _ (by omega) (by omega) (by omega) (by omega))) | (go_at_call 113; exact Calls.later_of (mul_any _ _ _ _ (by omega) (by omega) (by omega) (by omega) (by omega) (by omega)))))
    refine wpQuiet_nil ?_
    intro w2 hb2
    replace hb2 := below_of_later hb2
    go_wp2
    go_ret
    exact ⟨ret_int (by rw [Hr.out]), below2 hb hb2⟩
  · have hv := vld_no hv
    have hr : fmul p a b = 0 := by rw [fmul, hv]; rfl
    go_wp2_with fail
    refine (valid_any _ _).mono ?_
    rintro ew1 w1 ⟨rfl, hb1⟩
    have hb := own_below rfl hb1
    clear hb1
    go_wp2
    go_ret
    exact ⟨ret_int hr.symm, hb⟩

theorem powmod (p a : Int) (k : Nat) : (a % p) ^ k % p = a ^ k % p := by
  induction k with
  | zero => simp
  | succ k ih => rw [Int.pow_succ, Int.pow_succ, Int.mul_emod, ih, Int.emod_emod_of_dvd _ (Int.dvd_refl p), ← Int.mul_emod]

/-- The row of a table over the known primes: 0 if p is none. -/
def fnum (a b c d e f g : Int) (p : Int) : Int := if p = 17 then a else if p = 97 then b else if p = 193 then c else if p = 257 then d else if p = 12289 then e else if p = 65537 then f else if p = 18446744069414584321 then g else 0
def fgen : Int → Int := fnum 3 5 5 3 11 3 7
def fadi : Int → Int := fnum 4 5 6 8 12 16 32
def fexp : Int → Int := fnum 3 5 5 3 5 3 7

end Go.Proofs.Ytlgjnidphldiiaa
