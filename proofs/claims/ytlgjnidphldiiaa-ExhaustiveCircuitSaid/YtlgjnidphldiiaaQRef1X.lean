/- The contracts of the reference of the field: each returns what the field's function returns. -/
import Derived.Test.YtlgjnidphldiiaaQFieldBC
import Derived.Test.YtlgjnidphldiiaaQSlice
namespace Go.Proofs.Ytlgjnidphldiiaa
open Go.RowKit

@[go_sem] theorem Try.ix0 (x0 x1 x2 : Value) (w : World) : (Instr.index 112 (.agg #[x0, x1, x2]) (.int .i64 0)).run Try.prog w = .ok x0 w := by kernel_rfl
@[go_sem] theorem Try.ix1 (x0 x1 x2 : Value) (w : World) : (Instr.index 112 (.agg #[x0, x1, x2]) (.int .i64 1)).run Try.prog w = .ok x1 w := by kernel_rfl
@[go_sem] theorem Try.ix2 (x0 x1 x2 : Value) (w : World) : (Instr.index 112 (.agg #[x0, x1, x2]) (.int .i64 2)).run Try.prog w = .ok x2 w := by kernel_rfl

theorem gen_pos (p : Int) : decide (0 < fgen p) = vld p := by
  unfold fgen fnum vld
  repeat' split
  all_goals simp_all

set_option maxHeartbeats 800000 in
theorem row_any (p : Int) (w : World) :
    Calls Try.prog 74 #[.int .u64 p] w fun e w' => e = .returned (.agg #[.int .u64 (fgen p), .int .u64 (fadi p), .int .u64 (fexp p)]) ∧ Below w.heap.size w w' := by
  go_enter Try.func74, Try.ntmps74
  go_wp2
  all_goals
    refine bodyPost_ret (v := .agg #[.int .u64 (fgen p), .int .u64 (fadi p), .int .u64 (fexp p)]) ?_ rfl ⟨rfl, ?_⟩
    · simp_all [results, Try.results74, go_sem, fgen, fadi, fexp, fnum]
    · repeat (refine Below.setCell ?_ (by simp) _)
      exact (Below.refl _ _).alloc (Nat.le_refl _) _

set_option maxHeartbeats 400000 in
theorem rValid_any (p : Int) (w : World) :
    Calls Try.prog 22 #[.int .u64 p] w fun e w' => e = .returned (.bool (vld p)) ∧ Below w.heap.size w w' := by
  have h := gen_pos p
  go_enter Try.func22, Try.ntmps22
  go_wp2_with fail
  refine (row_any _ _).mono ?_
  rintro ew1 w1 ⟨rfl, hb⟩
  go_wp2
  go_ret
  exact ⟨rfl, hb⟩

set_option maxHeartbeats 400000 in
theorem rExponent_any (p : Int) (w : World) :
    Calls Try.prog 138 #[.int .u64 p] w fun e w' => e = .returned (.int .u64 (fexp p)) ∧ Below w.heap.size w w' := by
  go_enter Try.func138, Try.ntmps138
  go_wp2_with fail
  refine (row_any _ _).mono ?_
  rintro ew1 w1 ⟨rfl, hb⟩
  go_wp2
  go_ret
  exact ⟨rfl, hb⟩

set_option maxHeartbeats 400000 in
theorem rAdd_any (p a b : Int) (w : World) (a0 : 0 ≤ a) (a1 : a < 18446744073709551616) (b0 : 0 ≤ b) (b1 : b < 18446744073709551616) :
    Calls Try.prog 54 #[.int .u64 p, .int .u64 a, .int .u64 b] w fun e w' => e = .returned (.int .u64 (fadd p a b)) ∧ Below w.heap.size w w' := by
  go_enter Try.func54, Try.ntmps54
  by_cases hv : vld p = true
  · have hp := vld_pos hv
    have ha := mod_lt' (p := p) (by omega) a
    have hb := mod_lt' (p := p) (by omega) b
    have hr : fadd p a b = if p ≤ a % p + b % p then a % p + b % p - p else a % p + b % p := by
      rw [fadd_eq hv, Int.add_emod]
      split
      · rw [← Int.sub_emod_right, Int.emod_eq_of_lt (by omega) (by omega)]
      · rw [Int.emod_eq_of_lt (by omega) (by omega)]
    have Hr := hide hr
    clear hr
    have hp0 : (p == 0) = false := by simp; omega
    by_cases hc : p - b % p ≤ a % p
    · go_wp2_with fail
      refine (rValid_any _ _).mono ?_
      rintro ew1 w1 ⟨rfl, hb1⟩
      go_wp2
      refine wp_region_later Try.mixed (by kernel_rfl) ?_
      repeat (first | go_big_quiet_step (first | fail) | quiet_step (first | fail))
      refine wpQuiet_nil ?_
      intro w2 hb2
      replace hb2 := below_of_later hb2
      go_wp2
      go_ret
      exact ⟨ret_int (by rw [Hr.out, if_pos (by omega)]; omega), below2 hb1 hb2⟩
    · go_wp2_with fail
      refine (rValid_any _ _).mono ?_
      rintro ew1 w1 ⟨rfl, hb1⟩
      go_wp2
      refine wp_region_later Try.mixed (by kernel_rfl) ?_
      repeat (first | go_big_quiet_step (first | fail) | quiet_step (first | fail))
      refine wpQuiet_nil ?_
      intro w2 hb2
      replace hb2 := below_of_later hb2
      go_wp2
      go_ret
      exact ⟨ret_int (by rw [Hr.out, if_neg (by omega)]), below2 hb1 hb2⟩
  · have hv := vld_no hv
    have hr : fadd p a b = 0 := by rw [fadd, hv]; rfl
    go_wp2_with fail
    refine (rValid_any _ _).mono ?_
    rintro ew1 w1 ⟨rfl, hb⟩
    go_wp2
    go_ret
    exact ⟨ret_int hr.symm, hb⟩

theorem mul64_q (a b : Int) (w : World) (a0 : 0 ≤ a) (a1 : a < 18446744073709551616) (b0 : 0 ≤ b) (b1 : b < 18446744073709551616) :
    Calls Try.prog 109 #[.int .u64 a, .int .u64 b] w fun e w' => e = .returned (.tuple #[.int .u64 (a * b / 18446744073709551616), .int .u64 (a * b % 18446744073709551616)]) ∧ Below w.heap.size w w' := by
  obtain ⟨x, rfl⟩ := Int.eq_ofNat_of_zero_le a0
  obtain ⟨y, rfl⟩ := Int.eq_ofNat_of_zero_le b0
  refine (Try.bits_Mul64 x y (by omega) (by omega) w).mono ?_
  rintro e w' ⟨rfl, rfl⟩
  have e1 : ((x * y : Nat) : Int) = (x : Int) * (y : Int) := Int.natCast_mul _ _
  refine ⟨?_, Below.refl _ _⟩
  rw [← e1]
  rfl

set_option maxHeartbeats 400000 in
theorem rMul_any (p a b : Int) (w : World) (a0 : 0 ≤ a) (a1 : a < 18446744073709551616) (b0 : 0 ≤ b) (b1 : b < 18446744073709551616) :
    Calls Try.prog 78 #[.int .u64 p, .int .u64 a, .int .u64 b] w fun e w' => e = .returned (.int .u64 (fmul p a b)) ∧ Below w.heap.size w w' := by
  go_enter Try.func78, Try.ntmps78
  by_cases hv : vld p = true
  · have hp := vld_pos hv
    have ha := mod_lt' (p := p) (by omega) a
    have hb := mod_lt' (p := p) (by omega) b
    have hr : fmul p a b = (a % p * (b % p)) % p := by rw [fmul_eq hv, Int.mul_emod]
    have hp0 : (p == 0) = false := by simp; omega
    have Hr := hide hr
    have hm0 : 0 ≤ a % p * (b % p) := Int.mul_nonneg ha.1 hb.1
    have hlt : a % p * (b % p) / 18446744073709551616 < p := hi_lt (b := b % p) (l := a % p * (b % p) % 18446744073709551616) ha.1 ha.2 (by omega) (by omega) (by omega)
    have k1 : 0 ≤ a % p * (b % p) / 18446744073709551616 := by omega
    have k2 : 0 ≤ a % p * (b % p) % 18446744073709551616 := by omega
    have k3 : a % p * (b % p) % 18446744073709551616 < 18446744073709551616 := by omega
    have k4 : (a % p * (b % p) / 18446744073709551616) * 18446744073709551616 + a % p * (b % p) % 18446744073709551616 = a % p * (b % p) := by omega
    have K4 := hide k4
    clear hr k4
    go_wp2_with fail
    refine (rValid_any _ _).mono ?_
    rintro ew1 w1 ⟨rfl, hb1⟩
    go_wp2
    refine wp_region_later Try.mixed (by kernel_rfl) ?_
    repeat (first | go_big_quiet_step (first | (go_at_call 109; exact Calls.later_of (mul64_q _ _ _ (by omega) (by omega) (by omega) (by omega)))) | quiet_step (first | (go_at_call 109; exact Calls.later_of (mul64_q _ _ _ (by omega) (by omega) (by omega) (by omega)))))
    refine wpQuiet_nil ?_
    intro w2 hb2
    replace hb2 := below_of_later hb2
    go_wp2_with fail
    refine (div64_int _ _ _ _ k1 hlt (by omega) k2 k3).mono ?_
    rintro ew3 w3 ⟨rfl, hb3⟩
    go_wp2
    go_ret
    exact ⟨ret_int (by rw [Hr.out, K4.out]), below2 (below2 hb1 hb2) hb3⟩
  · have hv := vld_no hv
    have hr : fmul p a b = 0 := by rw [fmul, hv]; rfl
    go_wp2_with fail
    refine (rValid_any _ _).mono ?_
    rintro ew1 w1 ⟨rfl, hb⟩
    go_wp2
    go_ret
    exact ⟨ret_int hr.symm, hb⟩

end Go.Proofs.Ytlgjnidphldiiaa

/- The contracts of the reference of the field: powers, inverses. -/
namespace Go.Proofs.Ytlgjnidphldiiaa
open Go.RowKit

/-- What holds at the head of the loop of a power. -/
structure RPow (p a e0 x r e : Int) (w wr : World) : Prop where
  x0 : 0 ≤ x
  x1 : x < p
  r0 : 0 ≤ r
  r1 : r < p
  n0 : 0 ≤ e
  n1 : e < 18446744073709551616
  h : r * x ^ e.toNat % p = a ^ e0.toNat % p
  b : Below w.heap.size w wr

theorem RPow.next {p a e0 x r e r' : Int} {w wr w2 : World} (H : RPow p a e0 x r e w wr) (hv : vld p = true) (he : 0 < e)
    (hr : r' = if e % 2 = 1 then fmul p r x else r) (hb : Below wr.heap.size wr w2) : RPow p a e0 (fmul p x x) r' (e / 2) w w2 := by
  have hp := vld_pos hv
  rw [fmul_eq hv] at hr
  have h1 := pow_step p x r e he
  rw [← hr] at h1
  have hxx := mod_lt' (show 0 < p by omega) (x * x)
  have hrx := mod_lt' (show 0 < p by omega) (r * x)
  have hr' : 0 ≤ r' ∧ r' < p := by
    rw [hr]; split
    · exact hrx
    · exact ⟨H.r0, H.r1⟩
  rw [fmul_eq hv]
  exact ⟨hxx.1, hxx.2, hr'.1, hr'.2, by have := H.n0; omega, by have := H.n1; omega, by rw [← H.h, h1], below2 H.b hb⟩

set_option maxHeartbeats 1000000 in
theorem rPow_any (p a e0 : Int) (w : World) (a0 : 0 ≤ a) (a1 : a < 18446744073709551616) (g0 : 0 ≤ e0) (g1 : e0 < 18446744073709551616) :
    Calls Try.prog 116 #[.int .u64 p, .int .u64 a, .int .u64 e0] w fun e w' => e = .returned (.int .u64 (fpow p a e0)) ∧ Below w.heap.size w w' := by
  go_enter Try.func116, Try.ntmps116
  by_cases hv : vld p = true
  · have hp := vld_pos hv
    have ha := mod_lt' (p := p) (by omega) a
    have hr : fpow p a e0 = (a % p) ^ e0.toNat % p := by rw [fpow, if_pos hv, powmod]
    have hp0 : (p == 0) = false := by simp; omega
    have Hr := hide hr
    clear hr
    go_wp2_with fail
    refine (rValid_any _ _).mono ?_
    rintro ew1 w1 ⟨rfl, hb1⟩
    go_wp2
    go_loopw [1, 2, 7] (fun t1 t2 t7 wr => ∃ x e r : Int, t1 = .int .u64 x ∧ t2 = .int .u64 e ∧ t7 = .int .u64 r ∧ RPow p (a % p) e0 x r e w wr) (fun _ t2 _ _ => (intOf t2).toNat)
    case atStart => exact ⟨a % p, e0, 1, rfl, rfl, rfl, ha.1, ha.2, by omega, by omega, g0, g1, by rw [Int.one_mul], hb1⟩
    case round =>
      obtain ⟨x, e, r, rfl, rfl, rfl, H⟩ := hrel
      have x0 := H.x0; have x1 := H.x1; have r0 := H.r0; have r1 := H.r1; have c0 := H.n0; have c1 := H.n1
      by_cases he : 0 < e
      · by_cases ho : e % 2 = 1
        · have hod : (e % 2 == 1) = true := by simp [ho]
          have HO := hide ho
          clear ho
          go_wp2_with fail
          refine (rMul_any p r x _ r0 (by omega) x0 (by omega)).mono ?_
          rintro ew2 w2 ⟨rfl, hb2⟩
          go_wp2_with fail
          refine (rMul_any p x x _ x0 (by omega) x0 (by omega)).mono ?_
          rintro ew3 w3 ⟨rfl, hb3⟩
          go_wp2
          go_roundw
          case rel => exact ⟨_, _, _, rfl, rfl, rfl, H.next hv he (by rw [if_pos HO.out]) (below2 hb2 hb3)⟩
          case measure => simp [intOf]; omega
        · have hod : (e % 2 == 1) = false := by simp [ho]
          have HO := hide ho
          clear ho
          go_wp2_with fail
          refine (rMul_any p x x _ x0 (by omega) x0 (by omega)).mono ?_
          rintro ew3 w3 ⟨rfl, hb3⟩
          go_wp2
          go_roundw
          case rel => exact ⟨_, _, _, rfl, rfl, rfl, H.next hv he (by rw [if_neg HO.out]) hb3⟩
          case measure => simp [intOf]; omega
      · go_wp2
        go_ret
        have := H.h
        rw [show e.toNat = 0 by omega, Int.pow_zero, Int.mul_one, Int.emod_eq_of_lt r0 r1] at this
        exact ⟨ret_int (by rw [Hr.out]; exact this), H.b⟩
  · have hv := vld_no hv
    have hr : fpow p a e0 = 0 := by rw [fpow, hv]; rfl
    go_wp2_with fail
    refine (rValid_any _ _).mono ?_
    rintro ew1 w1 ⟨rfl, hb⟩
    go_wp2
    go_ret
    exact ⟨ret_int hr.symm, hb⟩

set_option maxHeartbeats 400000 in
theorem rInv_any (p a : Int) (w : World) (a0 : 0 ≤ a) (a1 : a < 18446744073709551616) :
    Calls Try.prog 82 #[.int .u64 p, .int .u64 a] w fun e w' => e = .returned (.int .u64 (finv p a)) ∧ Below w.heap.size w w' := by
  go_enter Try.func82, Try.ntmps82
  by_cases hv : vld p = true
  · have hp := vld_pos hv
    have hr : finv p a = fpow p a (p - 2) := by rw [finv, fpow]
    have Hr := hide hr
    clear hr
    go_wp2_with fail
    refine (rValid_any _ _).mono ?_
    rintro ew1 w1 ⟨rfl, hb1⟩
    go_wp2_with fail
    refine (rPow_any _ _ _ _ a0 a1 (by omega) (by omega)).mono ?_
    rintro ew2 w2 ⟨rfl, hb2⟩
    go_wp2
    go_ret
    exact ⟨ret_int Hr.out.symm, below2 hb1 hb2⟩
  · have hv := vld_no hv
    have hr : finv p a = 0 := by rw [finv, hv]; rfl
    go_wp2_with fail
    refine (rValid_any _ _).mono ?_
    rintro ew1 w1 ⟨rfl, hb⟩
    go_wp2
    go_ret
    exact ⟨ret_int hr.symm, hb⟩

end Go.Proofs.Ytlgjnidphldiiaa
