/- The contracts of the reference of the field: each returns what the field's function returns. -/
import Derived.Test.YtlgjnidphldiiaaFieldC
namespace Go.Proofs.Ytlgjnidphldiiaa
open Go.RowKit

@[go_sem] theorem Try.ix0 (x0 x1 x2 : Value) (w : World) : (Instr.index 112 (.agg #[x0, x1, x2]) (.int .i64 0)).run Try.prog w = .ok x0 w := by kernel_rfl
@[go_sem] theorem Try.ix1 (x0 x1 x2 : Value) (w : World) : (Instr.index 112 (.agg #[x0, x1, x2]) (.int .i64 1)).run Try.prog w = .ok x1 w := by kernel_rfl
@[go_sem] theorem Try.ix2 (x0 x1 x2 : Value) (w : World) : (Instr.index 112 (.agg #[x0, x1, x2]) (.int .i64 2)).run Try.prog w = .ok x2 w := by kernel_rfl

theorem gen_pos (p : Int) : decide (0 < fgen p) = vld p := by
  unfold fgen fnum vld
  repeat' split
  all_goals simp_all

set_option maxHeartbeats 800000 in
theorem row_any (p : Int) (w : World) :
    Calls Try.prog 74 #[.int .u64 p] w fun e w' => e = .returned (.agg #[.int .u64 (fgen p), .int .u64 (fadi p), .int .u64 (fexp p)]) ∧ Below w.heap.size w w' := by
  go_enter Try.func74, Try.ntmps74
  go_wp2
  all_goals
    refine bodyPost_ret (v := .agg #[.int .u64 (fgen p), .int .u64 (fadi p), .int .u64 (fexp p)]) ?_ rfl ⟨rfl, ?_⟩
    · simp_all [results, Try.results74, go_sem, fgen, fadi, fexp, fnum]
    · repeat (refine Below.setCell ?_ (by simp) _)
      exact (Below.refl _ _).alloc (Nat.le_refl _) _

set_option maxHeartbeats 400000 in
theorem rValid_any (p : Int) (w : World) :
    Calls Try.prog 22 #[.int .u64 p] w fun e w' => e = .returned (.bool (vld p)) ∧ Below w.heap.size w w' := by
  have h := gen_pos p
  go_enter Try.func22, Try.ntmps22
  go_wp2_with fail
  refine (row_any _ _).mono ?_
  rintro ew1 w1 ⟨rfl, hb⟩
  go_wp2
  go_ret
  exact ⟨rfl, hb⟩

set_option maxHeartbeats 400000 in
theorem rExponent_any (p : Int) (w : World) :
    Calls Try.prog 138 #[.int .u64 p] w fun e w' => e = .returned (.int .u64 (fexp p)) ∧ Below w.heap.size w w' := by
  go_enter Try.func138, Try.ntmps138
  go_wp2_with fail
  refine (row_any _ _).mono ?_
  rintro ew1 w1 ⟨rfl, hb⟩
  go_wp2
  go_ret
  exact ⟨rfl, hb⟩

set_option maxHeartbeats 400000 in
theorem rAdd_any (p a b : Int) (w : World) (a0 : 0 ≤ a) (a1 : a < 18446744073709551616) (b0 : 0 ≤ b) (b1 : b < 18446744073709551616) :
    Calls Try.prog 54 #[.int .u64 p, .int .u64 a, .int .u64 b] w fun e w' => e = .returned (.int .u64 (fadd p a b)) ∧ Below w.heap.size w w' := by
  go_enter Try.func54, Try.ntmps54
  by_cases hv : vld p = true
  · have hp := vld_pos hv
    have ha := mod_lt' (p := p) (by omega) a
    have hb := mod_lt' (p := p) (by omega) b
    have hr : fadd p a b = if p ≤ a % p + b % p then a % p + b % p - p else a % p + b % p := by
      rw [fadd_eq hv, Int.add_emod]
      split
      · rw [← Int.sub_emod_right, Int.emod_eq_of_lt (by omega) (by omega)]
      · rw [Int.emod_eq_of_lt (by omega) (by omega)]
    have Hr := hide hr
    clear hr
    have hp0 : (p == 0) = false := by simp; omega
    by_cases hc : p - b % p ≤ a % p
    · go_wp2_with fail
      refine (rValid_any _ _).mono ?_
      rintro ew1 w1 ⟨rfl, hb1⟩
      go_wp2
      refine wp_region_later Try.mixed (by kernel_rfl) ?_
      repeat (first | go_big_quiet_step (first | fail) | quiet_step (first | fail))
      refine wpQuiet_nil ?_
      intro w2 hb2
      replace hb2 := below_of_later hb2
      go_wp2
      go_ret
      exact ⟨ret_int (by rw [Hr.out, if_pos (by omega)]; omega), below2 hb1 hb2⟩
    · go_wp2_with fail
      refine (rValid_any _ _).mono ?_
      rintro ew1 w1 ⟨rfl, hb1⟩
      go_wp2
      refine wp_region_later Try.mixed (by kernel_rfl) ?_
      repeat (first | go_big_quiet_step (first | fail) | quiet_step (first | fail))
      refine wpQuiet_nil ?_
      intro w2 hb2
      replace hb2 := below_of_later hb2
      go_wp2
      go_ret
      exact ⟨ret_int (by rw [Hr.out, if_neg (by omega)]), below2 hb1 hb2⟩
  · have hv := vld_no hv
    have hr : fadd p a b = 0 := by rw [fadd, hv]; rfl
    go_wp2_with fail
    refine (rValid_any _ _).mono ?_
    rintro ew1 w1 ⟨rfl, hb⟩
    go_wp2
    go_ret
    exact ⟨ret_int hr.symm, hb⟩

theorem mul64_q (a b : Int) (w : World) (a0 : 0 ≤ a) (a1 : a < 18446744073709551616) (b0 : 0 ≤ b) (b1 : b < 18446744073709551616) :
    Calls Try.prog 109 #[.int .u64 a, .int .u64 b] w fun e w' => e = .returned (.tuple #[.int .u64 (a * b / 18446744073709551616), .int .u64 (a * b % 18446744073709551616)]) ∧ Below w.heap.size w w' := by
  obtain ⟨x, rfl⟩ := Int.eq_ofNat_of_zero_le a0
  obtain ⟨y, rfl⟩ := Int.eq_ofNat_of_zero_le b0
  refine (Try.bits_Mul64 x y (by omega) (by omega) w).mono ?_
  rintro e w' ⟨rfl, rfl⟩
  have e1 : ((x * y : Nat) : Int) = (x : Int) * (y : Int) := Int.natCast_mul _ _
  refine ⟨?_, Below.refl _ _⟩
  rw [← e1]
  rfl

set_option maxHeartbeats 400000 in
theorem rMul_any (p a b : Int) (w : World) (a0 : 0 ≤ a) (a1 : a < 18446744073709551616) (b0 : 0 ≤ b) (b1 : b < 18446744073709551616) :
    Calls Try.prog 78 #[.int .u64 p, .int .u64 a, .int .u64 b] w fun e w' => e = .returned (.int .u64 (fmul p a b)) ∧ Below w.heap.size w w' := by
  go_enter Try.func78, Try.ntmps78
  by_cases hv : vld p = true
  · have hp := vld_pos hv
    have ha := mod_lt' (p := p) (by omega) a
    have hb := mod_lt' (p := p) (by omega) b
    have hr : fmul p a b = (a % p * (b % p)) % p := by rw [fmul_eq hv, Int.mul_emod]
    have hp0 : (p == 0) = false := by simp; omega
    have Hr := hide hr
    have hm0 : 0 ≤ a % p * (b % p) := Int.mul_nonneg ha.1 hb.1
    have hlt : a % p * (b % p) / 18446744073709551616 < p := hi_lt (b := b % p) (l := a % p * (b % p) % 18446744073709551616) ha.1 ha.2 (by omega) (by omega) (by omega)
    have k1 : 0 ≤ a % p * (b % p) / 18446744073709551616 := by omega
    have k2 : 0 ≤ a % p * (b % p) % 18446744073709551616 := by omega
    have k3 : a % p * (b % p) % 18446744073709551616 < 18446744073709551616 := by omega
    have k4 : (a % p * (b % p) / 18446744073709551616) * 18446744073709551616 + a % p * (b % p) % 18446744073709551616 = a % p * (b % p) := by omega
    have K4 := hide k4
    clear hr k4
    go_wp2_with fail
    refine (rValid_any _ _).mono ?_
    rintro ew1 w1 ⟨rfl, hb1⟩
    go_wp2
    refine wp_region_later Try.mixed (by kernel_rfl) ?_
    repeat (first | go_big_quiet_step (first | (go_at_call 109; exact Calls.later_of (mul64_q _ _ _ (by omega) (by omega) (by omega) (by omega)))) | quiet_step (first | (go_at_call 109; exact Calls.later_of (mul64_q _ _ _ (by omega) (by omega) (by omega) (by omega)))))
    refine wpQuiet_nil ?_
    intro w2 hb2
    replace hb2 := below_of_later hb2
    go_wp2_with fail
    refine (div64_int _ _ _ _ k1 hlt (by omega) k2 k3).mono ?_
    rintro ew3 w3 ⟨rfl, hb3⟩
    go_wp2
    go_ret
    exact ⟨ret_int (by rw [Hr.out, K4.out]), below2 (below2 hb1 hb2) hb3⟩
  · have hv := vld_no hv
    have hr : fmul p a b = 0 := by rw [fmul, hv]; rfl
    go_wp2_with fail
    refine (rValid_any _ _).mono ?_
    rintro ew1 w1 ⟨rfl, hb⟩
    go_wp2
    go_ret
    exact ⟨ret_int hr.symm, hb⟩

end Go.Proofs.Ytlgjnidphldiiaa
