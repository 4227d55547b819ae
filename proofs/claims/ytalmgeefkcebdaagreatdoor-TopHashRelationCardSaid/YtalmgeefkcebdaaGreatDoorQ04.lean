/- The contracts of the field's arithmetic on reduced elements, and of its exported functions. -/
import Derived.Test.YtalmgeefkcebdaaGreatDoorQ03
namespace Go.Proofs.YtalmgeefkcebdaaGreatDoor
open Go.RowKit

/-- The world that the walk has come to, under a name. -/
theorem name_world {P : Program} {c : Code} {Q : Exit → Act → World → Prop} {a : Act} {w0 : World} (h : ∀ W, W = w0 → c.wp P Q a W) : c.wp P Q a w0 := h _ rfl

set_option maxHeartbeats 400000 in
theorem add_any (p a b : Int) (w : World) (h0 : 0 < p) (h1 : p ≤ 18446744069414584321) (a0 : 0 ≤ a) (a1 : a < p) (b0 : 0 ≤ b) (b1 : b < p) :
    Calls Tryz.prog 169 #[.agg #[.int .u64 p], .int .u64 a, .int .u64 b] w fun e w' => e = .returned (.int .u64 ((a + b) % p)) ∧ Below w.heap.size w w' := by
  have k := add64_0 a b a0 b0
  by_cases hc : a + b < 18446744073709551616
  · have q1 : (a + b) % 18446744073709551616 = a + b := Int.emod_eq_of_lt (by omega) hc
    have q2 : (a + b) / 18446744073709551616 = 0 := by omega
    simp only [q1, q2] at k
    by_cases hp : p ≤ a + b
    · have q3 : (a + b) % p = a + b - p := by rw [← Int.sub_emod_right, Int.emod_eq_of_lt (by omega) (by omega)]
      have Q3 := hide q3
      clear q1 q2 q3
      go_enter Tryz.func169, Tryz.ntmps169
      go_wp2_with (simp only [k])
      go_ret
      exact ⟨ret_int Q3.out.symm, (Below.refl _ _).alloc (Nat.le_refl _) _⟩
    · have q3 : (a + b) % p = a + b := Int.emod_eq_of_lt (by omega) (by omega)
      have Q3 := hide q3
      clear q1 q2 q3
      go_enter Tryz.func169, Tryz.ntmps169
      go_wp2_with (simp only [k])
      go_ret
      exact ⟨ret_int Q3.out.symm, (Below.refl _ _).alloc (Nat.le_refl _) _⟩
  · have q1 : (a + b) % 18446744073709551616 = a + b - 18446744073709551616 := by omega
    have q2 : (a + b) / 18446744073709551616 = 1 := by omega
    simp only [q1, q2] at k
    have q3 : (a + b) % p = a + b - p := by rw [← Int.sub_emod_right, Int.emod_eq_of_lt (by omega) (by omega)]
    have q4 : IntKind.u64.wrap (a + b - 18446744073709551616 - p) = a + b - p := by rw [IntKind.wrap_u64]; omega
    have Q3 := hide q3
    clear q1 q2 q3
    go_enter Tryz.func169, Tryz.ntmps169
    go_wp2_with (simp only [k])
    go_ret
    exact ⟨ret_int Q3.out.symm, (Below.refl _ _).alloc (Nat.le_refl _) _⟩

theorem mul64_int (a b : Int) (w : World) (a0 : 0 ≤ a) (a1 : a < 18446744073709551616) (b0 : 0 ≤ b) (b1 : b < 18446744073709551616) :
    Calls Tryz.prog 107 #[.int .u64 a, .int .u64 b] w fun e w' => ∃ h l : Int, e = .returned (.tuple #[.int .u64 h, .int .u64 l]) ∧ 0 ≤ h ∧ 0 ≤ l ∧ l < 18446744073709551616 ∧ h * 18446744073709551616 + l = a * b ∧ w = w' := by
  obtain ⟨x, rfl⟩ := Int.eq_ofNat_of_zero_le a0
  obtain ⟨y, rfl⟩ := Int.eq_ofNat_of_zero_le b0
  refine (Tryz.bits_Mul64 x y (by omega) (by omega) w).mono ?_
  rintro e w' ⟨rfl, rfl⟩
  refine ⟨_, _, rfl, by omega, by omega, by omega, ?_, rfl⟩
  have e1 : ((x * y : Nat) : Int) = (x : Int) * (y : Int) := Int.natCast_mul _ _
  rw [← e1]
  omega

theorem div64_int (h l y : Int) (w : World) (h0 : 0 ≤ h) (h1 : h < y) (h2 : y < 18446744073709551616) (l0 : 0 ≤ l) (l1 : l < 18446744073709551616) :
    Calls Tryz.prog 108 #[.int .u64 h, .int .u64 l, .int .u64 y] w fun e w' =>
      e = .returned (.tuple #[.int .u64 ((h * 18446744073709551616 + l) / y), .int .u64 ((h * 18446744073709551616 + l) % y)]) ∧ Below w.heap.size w w' := by
  obtain ⟨x, rfl⟩ := Int.eq_ofNat_of_zero_le h0
  obtain ⟨z, rfl⟩ := Int.eq_ofNat_of_zero_le l0
  obtain ⟨v, rfl⟩ := Int.eq_ofNat_of_zero_le (show 0 ≤ y by omega)
  have h := div64_any x z v w (by omega) (by omega) (by omega)
  rw [Int.natCast_ediv, Int.natCast_emod, Int.natCast_add, Int.natCast_mul] at h
  exact h

theorem hi_lt {a b h l p : Int} (a0 : 0 ≤ a) (a1 : a < p) (b1 : b < 18446744073709551616) (l0 : 0 ≤ l) (e : h * 18446744073709551616 + l = a * b) : h < p := by
  have : a * b ≤ a * 18446744073709551615 := Int.mul_le_mul_of_nonneg_left (by omega) a0
  omega

set_option maxHeartbeats 400000 in
theorem mul_any (p a b : Int) (w : World) (h0 : 0 < p) (h1 : p ≤ 18446744069414584321) (a0 : 0 ≤ a) (a1 : a < p) (b0 : 0 ≤ b) (b1 : b < p) :
    Calls Tryz.prog 115 #[.agg #[.int .u64 p], .int .u64 a, .int .u64 b] w fun e w' => e = .returned (.int .u64 (a * b % p)) ∧ Below w.heap.size w w' := by
  go_enter Tryz.func115, Tryz.ntmps115
  go_wp2_with fail
  refine (mul64_int a b _ a0 (by omega) b0 (by omega)).mono ?_
  rintro e w' ⟨h, l, rfl, c0, c1, c2, ce, rfl⟩
  have c3 : h < p := hi_lt a0 a1 (by omega) c1 ce
  have Hc := hide ce
  clear ce
  go_wp2_with fail
  refine (div64_int h l p _ c0 c3 (by omega) c1 c2).mono ?_
  rintro e w' ⟨rfl, hb⟩
  go_wp2
  go_ret
  exact ⟨ret_int (by rw [Hc.out]), ((Below.refl _ _).alloc (Nat.le_refl _) _).trans (hb.mono (by simp))⟩

theorem pow_step (p x r e : Int) (he : 0 < e) :
    (r * x ^ e.toNat) % p = ((if e % 2 = 1 then r * x % p else r) * (x * x % p) ^ (e / 2).toNat) % p := by
  have e1 : e.toNat = 2 * (e / 2).toNat + (e % 2).toNat := by omega
  have e2 : x ^ e.toNat = (x * x) ^ (e / 2).toNat * x ^ (e % 2).toNat := by
    rw [e1, Int.pow_add, Int.pow_mul]
    congr 1
    rw [show x ^ 2 = x * x from by rw [Int.pow_succ, Int.pow_succ, Int.pow_zero, Int.one_mul]]
  have e3 : ∀ k : Nat, (x * x % p) ^ k % p = (x * x) ^ k % p := by
    intro k
    induction k with
    | zero => simp
    | succ k ih => rw [Int.pow_succ, Int.pow_succ, Int.mul_emod, ih, Int.emod_emod_of_dvd _ (Int.dvd_refl p), ← Int.mul_emod]
  rw [e2]
  by_cases h : e % 2 = 1
  · rw [if_pos h, h]
    rw [Int.mul_emod (r * x % p), e3, Int.emod_emod_of_dvd _ (Int.dvd_refl p), ← Int.mul_emod]
    congr 1
    simp only [show (1 : Int).toNat = 1 from rfl, Int.pow_succ, Int.pow_zero, Int.one_mul]
    rw [Int.mul_comm ((x * x) ^ _), Int.mul_assoc]
  · rw [if_neg h, show e % 2 = 0 by omega]
    rw [show Int.toNat 0 = 0 from rfl, Int.pow_zero, Int.mul_one, Int.mul_emod r ((x * x) ^ _), ← e3, ← Int.mul_emod]

theorem pow_last (p x y r : Int) (e : Int) (he : ¬ 0 < e / 2) : (r * x ^ (e / 2).toNat) % p = (r * y ^ (e / 2).toNat) % p := by
  rw [show (e / 2).toNat = 0 by omega, Int.pow_zero, Int.pow_zero]

/-- What holds at the head of the loop of a power. -/
structure PowAt (p a e0 x r e : Int) (w wr : World) : Prop where
  x0 : 0 ≤ x
  x1 : x < p
  r0 : 0 ≤ r
  r1 : r < p
  n0 : 0 ≤ e
  n1 : e < 18446744073709551616
  h : r * x ^ e.toNat % p = a ^ e0.toNat % p
  b : Below w.heap.size w wr
  z : w.heap.size < wr.heap.size
  c : wr.cell? ⟨w.heap.size, 0, none⟩ = some (.int .u64 p)

theorem PowAt.next {p a e0 x r e x' r' : Int} {w wr w2 : World} (H : PowAt p a e0 x r e w wr) (hp : 0 < p) (he : 0 < e)
    (hr : r' = if e % 2 = 1 then r * x % p else r) (hx : (0 < e / 2 → x' = x * x % p) ∧ (¬ 0 < e / 2 → x' = x)) (hb : Below wr.heap.size wr w2) : PowAt p a e0 x' r' (e / 2) w w2 := by
  have h1 := pow_step p x r e he
  rw [← hr] at h1
  have hxx := mod_lt' hp (x * x)
  have hrx := mod_lt' hp (r * x)
  have hr' : 0 ≤ r' ∧ r' < p := by
    rw [hr]; split
    · exact hrx
    · exact ⟨H.r0, H.r1⟩
  refine ⟨?_, ?_, hr'.1, hr'.2, by have := H.n0; omega, by have := H.n1; omega, ?_, H.b.trans (hb.mono (by have := H.z; omega)), by have := hb.size; have := H.z; omega, ?_⟩
  · by_cases h : 0 < e / 2
    · rw [hx.1 h]; exact hxx.1
    · rw [hx.2 h]; exact H.x0
  · by_cases h : 0 < e / 2
    · rw [hx.1 h]; exact hxx.2
    · rw [hx.2 h]; exact H.x1
  · rw [← H.h, h1]
    by_cases h : 0 < e / 2
    · rw [hx.1 h]
    · exact pow_last p _ _ _ _ h
  · rw [hb.cell (by exact H.z)]; exact H.c

set_option maxHeartbeats 1000000 in
theorem pow_any (p a e0 : Int) (w : World) (h0 : 1 < p) (h1 : p ≤ 18446744069414584321) (a0 : 0 ≤ a) (a1 : a < p) (g0 : 0 ≤ e0) (g1 : e0 < 18446744073709551616) :
    Calls Tryz.prog 117 #[.agg #[.int .u64 p], .int .u64 a, .int .u64 e0] w fun e w' => e = .returned (.int .u64 (a ^ e0.toNat % p)) ∧ Below w.heap.size w w' := by
  go_enter Tryz.func117, Tryz.ntmps117
  go_wp2
  go_loopw [1, 2, 7] (fun t1 t2 t7 wr => ∃ x e r : Int, t1 = .int .u64 x ∧ t2 = .int .u64 e ∧ t7 = .int .u64 r ∧ PowAt p a e0 x r e w wr) (fun _ t2 _ _ => (intOf t2).toNat)
  case atStart => exact ⟨a, e0, 1, rfl, rfl, rfl, a0, a1, by omega, by omega, g0, g1, by rw [Int.one_mul], (Below.refl _ _).alloc (Nat.le_refl _) _, by simp, by simp [go_sem]⟩
  case round =>
    obtain ⟨x, e, r, rfl, rfl, rfl, H⟩ := hrel
    have x0 := H.x0; have x1 := H.x1; have r0 := H.r0; have r1 := H.r1; have c0 := H.n0; have c1 := H.n1; have hc := H.c
    have hb1 : bits BinOp.and IntKind.u64 e 1 = e % 2 := and_one_u64 e c0 (by omega)
    by_cases he : 0 < e
    · by_cases ho : e % 2 = 1
      · have hod : (e % 2 == 1) = true := by simp [ho]
        have HO := hide ho
        clear ho
        by_cases h2 : 0 < e / 2
        · go_wp2_with fail
          refine (mul_any p r x _ (by omega) h1 r0 r1 x0 x1).mono ?_
          rintro e' w1 ⟨rfl, hb⟩
          have hc1 := (hb.cell (p := ⟨w.heap.size, 0, none⟩) (by exact H.z)).trans hc
          go_wp2_with fail
          refine (mul_any p x x _ (by omega) h1 x0 x1 x0 x1).mono ?_
          rintro e' w2 ⟨rfl, hb'⟩
          go_wp2
          go_roundw
          case rel => exact ⟨_, _, _, rfl, rfl, rfl, H.next (by omega) he (by rw [if_pos HO.out]) ⟨fun _ => rfl, fun h => absurd h2 (by omega)⟩ (hb.trans (hb'.mono hb.size))⟩
          case measure => simp [intOf]; omega
        · go_wp2_with fail
          refine (mul_any p r x _ (by omega) h1 r0 r1 x0 x1).mono ?_
          rintro e' w1 ⟨rfl, hb⟩
          go_wp2
          go_roundw
          case rel => exact ⟨_, _, _, rfl, rfl, rfl, H.next (by omega) he (by rw [if_pos HO.out]) ⟨fun h => absurd h (by omega), fun _ => rfl⟩ hb⟩
          case measure => simp [intOf]; omega
      · have hod : (e % 2 == 1) = false := by simp [ho]
        have HO := hide ho
        clear ho
        by_cases h2 : 0 < e / 2
        · go_wp2_with fail
          refine (mul_any p x x _ (by omega) h1 x0 x1 x0 x1).mono ?_
          rintro e' w2 ⟨rfl, hb'⟩
          go_wp2
          go_roundw
          case rel => exact ⟨_, _, _, rfl, rfl, rfl, H.next (by omega) he (by rw [if_neg HO.out]) ⟨fun _ => rfl, fun h => absurd h2 (by omega)⟩ hb'⟩
          case measure => simp [intOf]; omega
        · go_wp2
          go_roundw
          case rel => exact ⟨_, _, _, rfl, rfl, rfl, H.next (by omega) he (by rw [if_neg HO.out]) ⟨fun h => absurd h (by omega), fun _ => rfl⟩ (Below.refl _ _)⟩
          case measure => simp [intOf]; omega
    · go_wp2
      go_ret
      have := H.h
      rw [show e.toNat = 0 by omega, Int.pow_zero, Int.mul_one, Int.emod_eq_of_lt r0 r1] at this
      exact ⟨ret_int this, H.b⟩


theorem vld_no {p : Int} (h : ¬ vld p = true) : vld p = false := by simpa using h

theorem fadd_eq {p : Int} (h : vld p = true) (a b : Int) : fadd p a b = (a + b) % p := by rw [fadd, if_pos h]
theorem fmul_eq {p : Int} (h : vld p = true) (a b : Int) : fmul p a b = (a * b) % p := by rw [fmul, if_pos h]

/-- The first cell of the call's own first block, behind whatever has come. -/
theorem own_cell {w W w1 : World} {v : Value} {T : TypeId} (hW : W = w.alloc (.cells #[v] T)) (hb : Below W.heap.size W w1) : w1.cell? ⟨w.heap.size, 0, none⟩ = some v := by
  subst hW
  rw [hb.cell (by simp)]
  simp [go_sem]
theorem own_below {w W w1 : World} {v : Value} {T : TypeId} (hW : W = w.alloc (.cells #[v] T)) (hb : Below W.heap.size W w1) : Below w.heap.size w w1 := by
  subst hW
  exact ((Below.refl _ _).alloc (Nat.le_refl _) _).trans (hb.mono (by simp))
theorem below2 {w w1 w2 : World} (h : Below w.heap.size w w1) (h' : Below w1.heap.size w1 w2) : Below w.heap.size w w2 := h.trans (h'.mono h.size)

set_option maxHeartbeats 400000 in
theorem Reduce_any (p n : Int) (w : World) (g0 : 0 ≤ n) (g1 : n < 18446744073709551616) :
    Calls Tryz.prog 138 #[.agg #[.int .u64 p], .int .u64 n] w fun e w' => e = .returned (.int .u64 (fred p n)) ∧ Below w.heap.size w w' := by
  go_enter Tryz.func138, Tryz.ntmps138
  by_cases hv : vld p = true
  · have hp := vld_pos hv
    have hr : fred p n = n % p := by rw [fred, if_pos hv]
    have Hr := hide hr
    clear hr
    go_wp2_with fail
    refine (valid_any _ _).mono ?_
    rintro ew1 w1 ⟨rfl, hb1⟩
    have hc := own_cell rfl hb1
    have hb := own_below rfl hb1
    clear hb1
    go_wp2_with fail
    refine (reduced_any p n _ (by omega) (by omega) g0 g1).mono ?_
    rintro ew2 w2 ⟨rfl, hb2⟩
    go_wp2
    go_ret
    exact ⟨ret_int Hr.out.symm, below2 hb hb2⟩
  · have hv := vld_no hv
    have hr : fred p n = 0 := by rw [fred, hv]; rfl
    go_wp2_with fail
    refine (valid_any _ _).mono ?_
    rintro ew1 w1 ⟨rfl, hb1⟩
    have hb := own_below rfl hb1
    clear hb1
    go_wp2
    go_ret
    exact ⟨ret_int hr.symm, hb⟩

set_option maxHeartbeats 400000 in
theorem Add_any (p a b : Int) (w : World) (a0 : 0 ≤ a) (a1 : a < 18446744073709551616) (b0 : 0 ≤ b) (b1 : b < 18446744073709551616) :
    Calls Tryz.prog 114 #[.agg #[.int .u64 p], .int .u64 a, .int .u64 b] w fun e w' => e = .returned (.int .u64 (fadd p a b)) ∧ Below w.heap.size w w' := by
  go_enter Tryz.func114, Tryz.ntmps114
  by_cases hv : vld p = true
  · have hp := vld_pos hv
    have ha := mod_lt' (p := p) (by omega) a
    have hb := mod_lt' (p := p) (by omega) b
    have hr := fadd_eq hv a b
    have Hr := hide hr
    clear hr
    go_wp2_with fail
    refine (valid_any _ _).mono ?_
    rintro ew1 w1 ⟨rfl, hb1⟩
    have hc := own_cell rfl hb1
    have hb := own_below rfl hb1
    clear hb1
    have hc' := cell_later' hc
    go_wp2_with fail
    refine wp_region_later Tryz.mixed (by kernel_rfl) ?_
    repeat (quiet_step (first | (go_at_call 116; exact Calls.later_of (reduced_any _ _ _ (by omega) (by omega) (by omega) (by omega))) | (go_at_call 169; exact Calls.later_of (add_any _ _ _ _ (by omega) (by omega) (by omega) (by omega) (by omega) (by omega)))))
    refine wpQuiet_nil ?_
    intro w2 hb2
    replace hb2 := below_of_later hb2
    go_wp2
    go_ret
    exact ⟨ret_int Hr.out.symm, below2 hb hb2⟩
  · have hv := vld_no hv
    have hr : fadd p a b = 0 := by rw [fadd, hv]; rfl
    go_wp2_with fail
    refine (valid_any _ _).mono ?_
    rintro ew1 w1 ⟨rfl, hb1⟩
    have hb := own_below rfl hb1
    clear hb1
    go_wp2
    go_ret
    exact ⟨ret_int hr.symm, hb⟩

set_option maxHeartbeats 400000 in
theorem Mul_any (p a b : Int) (w : World) (a0 : 0 ≤ a) (a1 : a < 18446744073709551616) (b0 : 0 ≤ b) (b1 : b < 18446744073709551616) :
    Calls Tryz.prog 61 #[.agg #[.int .u64 p], .int .u64 a, .int .u64 b] w fun e w' => e = .returned (.int .u64 (fmul p a b)) ∧ Below w.heap.size w w' := by
  go_enter Tryz.func61, Tryz.ntmps61
  by_cases hv : vld p = true
  · have hp := vld_pos hv
    have ha := mod_lt' (p := p) (by omega) a
    have hb := mod_lt' (p := p) (by omega) b
    have hr : fmul p a b = (a % p * (b % p)) % p := by rw [fmul_eq hv, Int.mul_emod]
    have Hr := hide hr
    clear hr
    go_wp2_with fail
    refine (valid_any _ _).mono ?_
    rintro ew1 w1 ⟨rfl, hb1⟩
    have hc := own_cell rfl hb1
    have hb := own_below rfl hb1
    clear hb1
    have hc' := cell_later' hc
    go_wp2_with fail
    refine wp_region_later Tryz.mixed (by kernel_rfl) ?_
    repeat (quiet_step (first | (go_at_call 116; exact Calls.later_of (reduced_any _ _ _ (by omega) (by omega) (by omega) (by omega))) | (go_at_call 115; exact Calls.later_of (mul_any _ _ _ _ (by omega) (by omega) (by omega) (by omega) (by omega) (by omega)))))
    refine wpQuiet_nil ?_
    intro w2 hb2
    replace hb2 := below_of_later hb2
    go_wp2
    go_ret
    exact ⟨ret_int (by rw [Hr.out]), below2 hb hb2⟩
  · have hv := vld_no hv
    have hr : fmul p a b = 0 := by rw [fmul, hv]; rfl
    go_wp2_with fail
    refine (valid_any _ _).mono ?_
    rintro ew1 w1 ⟨rfl, hb1⟩
    have hb := own_below rfl hb1
    clear hb1
    go_wp2
    go_ret
    exact ⟨ret_int hr.symm, hb⟩

theorem powmod (p a : Int) (k : Nat) : (a % p) ^ k % p = a ^ k % p := by
  induction k with
  | zero => simp
  | succ k ih => rw [Int.pow_succ, Int.pow_succ, Int.mul_emod, ih, Int.emod_emod_of_dvd _ (Int.dvd_refl p), ← Int.mul_emod]

set_option maxHeartbeats 400000 in
theorem Inv_any (p a : Int) (w : World) (a0 : 0 ≤ a) (a1 : a < 18446744073709551616) :
    Calls Tryz.prog 62 #[.agg #[.int .u64 p], .int .u64 a] w fun e w' => e = .returned (.int .u64 (finv p a)) ∧ Below w.heap.size w w' := by
  go_enter Tryz.func62, Tryz.ntmps62
  by_cases hv : vld p = true
  · have hp := vld_pos hv
    have ha := mod_lt' (p := p) (by omega) a
    have hr : finv p a = (a % p) ^ (p - 2).toNat % p := by rw [finv, if_pos hv, powmod]
    have hw : IntKind.u64.wrap (p - 2) = p - 2 := by rw [IntKind.wrap_u64]; omega
    have Hr := hide hr
    clear hr
    go_wp2_with fail
    refine (valid_any _ _).mono ?_
    rintro ew1 w1 ⟨rfl, hb1⟩
    have hc := own_cell rfl hb1
    have hb := own_below rfl hb1
    clear hb1
    have hc' := cell_later' hc
    go_wp2_with fail
    refine wp_region_later Tryz.mixed (by kernel_rfl) ?_
    repeat (quiet_step (first | (go_at_call 116; exact Calls.later_of (reduced_any _ _ _ (by omega) (by omega) (by omega) (by omega))) | (go_at_call 117; exact Calls.later_of (pow_any _ _ _ _ (by omega) (by omega) (by omega) (by omega) (by omega) (by omega)))))
    refine wpQuiet_nil ?_
    intro w2 hb2
    replace hb2 := below_of_later hb2
    go_wp2
    go_ret
    exact ⟨ret_int (by rw [Hr.out]), below2 hb hb2⟩
  · have hv := vld_no hv
    have hr : finv p a = 0 := by rw [finv, hv]; rfl
    go_wp2_with fail
    refine (valid_any _ _).mono ?_
    rintro ew1 w1 ⟨rfl, hb1⟩
    have hb := own_below rfl hb1
    clear hb1
    go_wp2
    go_ret
    exact ⟨ret_int hr.symm, hb⟩

theorem fneg_eq {p : Int} (h : vld p = true) (a : Int) : fneg p a = if fred p a = 0 then 0 else p - fred p a := by
  have hp := vld_pos h
  have hr := mod_lt' (p := p) (by omega) a
  have hs : fneg p a = (p - a % p) % p := by
    rw [fneg, if_pos h, Int.sub_emod, Int.emod_self, Int.emod_emod_of_dvd _ (Int.dvd_refl p), Int.neg_emod_eq_sub_emod, Int.sub_emod p a p, Int.emod_self]
  rw [hs, fred, if_pos h]
  split
  · rename_i h0; rw [h0, Int.sub_zero, Int.emod_self]
  · rw [Int.emod_eq_of_lt (by omega) (by omega)]

set_option maxHeartbeats 400000 in
theorem Neg_any (p a : Int) (w : World) (a0 : 0 ≤ a) (a1 : a < 18446744073709551616) :
    Calls Tryz.prog 165 #[.agg #[.int .u64 p], .int .u64 a] w fun e w' => e = .returned (.int .u64 (fneg p a)) ∧ Below w.heap.size w w' := by
  go_enter Tryz.func165, Tryz.ntmps165
  have hbd := fred_bd p a
  by_cases h0 : fred p a = 0
  · have hr : fneg p a = 0 := by
      by_cases hv : vld p = true
      · rw [fneg_eq hv, if_pos h0]
      · rw [fneg, vld_no hv]; rfl
    have Hr := hide hr
    clear hr
    have h1 : (fred p a == 0) = true := by simp [h0]
    clear h0
    go_wp2_with fail
    refine (Reduce_any _ _ _ a0 a1).mono ?_
    rintro ew1 w1 ⟨rfl, hb1⟩
    have hb := own_below rfl hb1
    clear hb1
    go_wp2
    go_ret
    exact ⟨ret_int Hr.out.symm, hb⟩
  · have hv : vld p = true := by
      by_cases hv : vld p = true
      · exact hv
      · exact absurd (by rw [fred, vld_no hv]; rfl) h0
    have hp := vld_pos hv
    have hr : fneg p a = p - fred p a := by rw [fneg_eq hv, if_neg h0]
    have hlt : fred p a < p := by rw [fred, if_pos hv]; exact (mod_lt' (by omega) a).2
    have Hr := hide hr
    have h1 : (fred p a == 0) = false := by simp [h0]
    clear hr h0
    go_wp2_with fail
    refine (Reduce_any _ _ _ a0 a1).mono ?_
    rintro ew1 w1 ⟨rfl, hb1⟩
    have hc := own_cell rfl hb1
    have hb := own_below rfl hb1
    clear hb1
    go_wp2
    go_ret
    exact ⟨ret_int Hr.out.symm, hb⟩

/-- The row of a table over the known primes: 0 if p is none. -/
def fnum (a b c d e f g : Int) (p : Int) : Int := if p = 17 then a else if p = 97 then b else if p = 193 then c else if p = 257 then d else if p = 12289 then e else if p = 65537 then f else if p = 18446744069414584321 then g else 0
def fgen : Int → Int := fnum 3 5 5 3 11 3 7
def fadi : Int → Int := fnum 4 5 6 8 12 16 32
def fexp : Int → Int := fnum 3 5 5 3 5 3 7

set_option maxHeartbeats 800000 in
theorem numbers_any (p : Int) (w : World) :
    Calls Tryz.prog 200 #[.agg #[.int .u64 p]] w fun e w' => e = .returned (.tuple #[.int .u64 (fgen p), .int .i64 (fadi p), .int .u64 (fexp p)]) ∧ Below w.heap.size w w' := by
  go_enter Tryz.func200, Tryz.ntmps200
  go_wp2
  all_goals
    go_ret3
    exact ⟨by simp_all [fexp, fgen, fadi, fnum], (Below.refl _ _).alloc (Nat.le_refl _) _⟩

set_option maxHeartbeats 400000 in
theorem Exponent_any (p : Int) (w : World) :
    Calls Tryz.prog 152 #[.agg #[.int .u64 p]] w fun e w' => e = .returned (.int .u64 (fexp p)) ∧ Below w.heap.size w w' := by
  go_enter Tryz.func152, Tryz.ntmps152
  go_wp2_with fail
  refine (numbers_any _ _).mono ?_
  rintro ew1 w1 ⟨rfl, hb1⟩
  have hb := own_below rfl hb1
  clear hb1
  go_wp2
  go_ret
  exact ⟨rfl, hb⟩


/-- The slice that begins at a holds the list xs of integers of kind k. -/
def Sl (w : World) (k : IntKind) (a : Option Addr) (xs : List Int) : Prop :=
  0 < xs.length → ∃ b off, a = some ⟨b, off, none⟩ ∧ b < w.heap.size ∧ ∀ i, i < xs.length → w.cell? ⟨b, off + i, none⟩ = some (.int k (xs.getD i 0))

theorem Sl.nil (w : World) (k : IntKind) (a : Option Addr) : Sl w k a [] := fun h => absurd h (by simp)

theorem Sl.mono {w w' : World} {k : IntKind} {a : Option Addr} {xs : List Int} (h : Sl w k a xs) (hb : Below w.heap.size w w') : Sl w' k a xs := fun h0 => by
  obtain ⟨b, off, e, hl, hc⟩ := h h0
  exact ⟨b, off, e, Nat.lt_of_lt_of_le hl hb.size, fun i hi => by rw [hb.cell hl]; exact hc i hi⟩

/-- Element number i. -/
theorem Sl.get {w : World} {k : IntKind} {a : Option Addr} {xs : List Int} (h : Sl w k a xs) {i : Nat} (hi : i < xs.length) :
    ∃ b off, a = some ⟨b, off, none⟩ ∧ b < w.heap.size ∧ w.cell? ⟨b, off + i, none⟩ = some (.int k (xs.getD i 0)) := by
  obtain ⟨b, off, e, hl, hc⟩ := h (by omega)
  exact ⟨b, off, e, hl, hc i hi⟩

/-- All elements are words of 64 bits. -/
def AllW (xs : List Int) : Prop := ∀ x ∈ xs, 0 ≤ x ∧ x < 18446744073709551616

theorem AllW.get {xs : List Int} (h : AllW xs) {i : Nat} (hi : i < xs.length) : 0 ≤ xs.getD i 0 ∧ xs.getD i 0 < 18446744073709551616 := by
  rw [List.getD_eq_getElem?_getD, List.getElem?_eq_getElem hi]
  exact h _ (List.getElem_mem hi)

theorem take_succ_getD {α : Type} (xs : List α) (d : α) {k : Nat} (h : k < xs.length) : xs.take (k + 1) = xs.take k ++ [xs.getD k d] := by
  rw [List.take_succ_eq_append_getElem h, List.getD_eq_getElem?_getD, List.getElem?_eq_getElem h]
  rfl

/-- Block b holds the cells cs, of element type T, and none of them is frozen. -/
def Blk (w : World) (b : Nat) (cs : Array Value) (T : TypeId) : Prop := w.heap[b]? = some (.cells cs T (0, 0))

theorem alloc_at (w : World) (o : Obj) (k : Nat) : (w.alloc o).heap[k]? = if k = w.heap.size then some o else w.heap[k]? := by
  show (w.heap.push o)[k]? = _
  rw [Array.getElem?_push]

theorem Blk.lt {w : World} {b : Nat} {cs : Array Value} {T : TypeId} (h : Blk w b cs T) : b < w.heap.size := by
  unfold Blk at h
  exact (Array.getElem?_eq_some_iff.1 h).1

theorem Blk.cell {w : World} {b : Nat} {cs : Array Value} {T : TypeId} (h : Blk w b cs T) {j : Nat} {v : Value} (hj : cs[j]? = some v) : w.cell? ⟨b, j, none⟩ = some v := by
  unfold Blk at h
  simp [World.cell?, h, hj]

theorem Blk.free {w : World} {b : Nat} {cs : Array Value} {T : TypeId} (h : Blk w b cs T) (j : Nat) : w.frozen? ⟨b, j, none⟩ = false := by
  unfold Blk at h
  simp [World.frozen?, h]

theorem Blk.mono {w w' : World} {b : Nat} {cs : Array Value} {T : TypeId} (h : Blk w b cs T) (hb : Below w.heap.size w w') : Blk w' b cs T := by
  unfold Blk at *
  rw [hb.block b (Array.getElem?_eq_some_iff.1 h).1]; exact h

theorem Blk.new (w : World) (cs : Array Value) (T : TypeId) : Blk (w.alloc (.cells cs T)) w.heap.size cs T := by
  show (w.heap.push _)[w.heap.size]? = _
  simp

theorem Blk.newAt {w : World} {b : Nat} {cs : Array Value} {T : TypeId} (h : b = w.heap.size) : Blk (w.alloc (.cells cs T)) b cs T := by
  subst h; exact Blk.new w cs T

theorem Blk.alloc {w : World} {b : Nat} {cs : Array Value} {T : TypeId} (h : Blk w b cs T) (o : Obj) : Blk (w.alloc o) b cs T :=
  h.mono ((Below.refl _ _).alloc (Nat.le_refl _) o)

theorem Blk.set {w : World} {b : Nat} {cs : Array Value} {T : TypeId} (h : Blk w b cs T) (j : Nat) (v : Value) : Blk (w.setCell ⟨b, j, none⟩ v) b (cs.setIfInBounds j v) T := by
  unfold Blk at *
  show (w.heap.modify b _)[b]? = _
  rw [Array.getElem?_modify, if_pos rfl, h]
  rfl

theorem Blk.other {w : World} {b c : Nat} {cs : Array Value} {T : TypeId} (h : Blk w b cs T) (hbc : c ≠ b) (j : Nat) (v : Value) : Blk (w.setCell ⟨c, j, none⟩ v) b cs T := by
  unfold Blk at *
  show (w.heap.modify c _)[b]? = _
  rw [Array.getElem?_modify, if_neg hbc, h]


@[go_sem] theorem Tryz.ix0 (x0 x1 x2 : Value) (w : World) : (Instr.index 24 (.agg #[x0, x1, x2]) (.int .i64 0)).run Tryz.prog w = .ok x0 w := by kernel_rfl
@[go_sem] theorem Tryz.ix1 (x0 x1 x2 : Value) (w : World) : (Instr.index 24 (.agg #[x0, x1, x2]) (.int .i64 1)).run Tryz.prog w = .ok x1 w := by kernel_rfl
@[go_sem] theorem Tryz.ix2 (x0 x1 x2 : Value) (w : World) : (Instr.index 24 (.agg #[x0, x1, x2]) (.int .i64 2)).run Tryz.prog w = .ok x2 w := by kernel_rfl

theorem gen_pos (p : Int) : decide (0 < fgen p) = vld p := by
  unfold fgen fnum vld
  repeat' split
  all_goals simp_all

set_option maxHeartbeats 800000 in
theorem row_any (p : Int) (w : World) :
    Calls Tryz.prog 54 #[.int .u64 p] w fun e w' => e = .returned (.agg #[.int .u64 (fgen p), .int .u64 (fadi p), .int .u64 (fexp p)]) ∧ Below w.heap.size w w' := by
  go_enter Tryz.func54, Tryz.ntmps54
  go_wp2
  all_goals
    refine bodyPost_ret (v := .agg #[.int .u64 (fgen p), .int .u64 (fadi p), .int .u64 (fexp p)]) ?_ rfl ⟨rfl, ?_⟩
    · simp_all [results, Tryz.results54, go_sem, fgen, fadi, fexp, fnum]
    · repeat (refine Below.setCell ?_ (by simp) _)
      exact (Below.refl _ _).alloc (Nat.le_refl _) _

set_option maxHeartbeats 400000 in
theorem rValid_any (p : Int) (w : World) :
    Calls Tryz.prog 22 #[.int .u64 p] w fun e w' => e = .returned (.bool (vld p)) ∧ Below w.heap.size w w' := by
  have h := gen_pos p
  go_enter Tryz.func22, Tryz.ntmps22
  go_wp2_with fail
  refine (row_any _ _).mono ?_
  rintro ew1 w1 ⟨rfl, hb⟩
  go_wp2
  go_ret
  exact ⟨rfl, hb⟩

set_option maxHeartbeats 400000 in
theorem rExponent_any (p : Int) (w : World) :
    Calls Tryz.prog 111 #[.int .u64 p] w fun e w' => e = .returned (.int .u64 (fexp p)) ∧ Below w.heap.size w w' := by
  go_enter Tryz.func111, Tryz.ntmps111
  go_wp2_with fail
  refine (row_any _ _).mono ?_
  rintro ew1 w1 ⟨rfl, hb⟩
  go_wp2
  go_ret
  exact ⟨rfl, hb⟩

set_option maxHeartbeats 400000 in
theorem rAdd_any (p a b : Int) (w : World) (a0 : 0 ≤ a) (a1 : a < 18446744073709551616) (b0 : 0 ≤ b) (b1 : b < 18446744073709551616) :
    Calls Tryz.prog 55 #[.int .u64 p, .int .u64 a, .int .u64 b] w fun e w' => e = .returned (.int .u64 (fadd p a b)) ∧ Below w.heap.size w w' := by
  go_enter Tryz.func55, Tryz.ntmps55
  by_cases hv : vld p = true
  · have hp := vld_pos hv
    have ha := mod_lt' (p := p) (by omega) a
    have hb := mod_lt' (p := p) (by omega) b
    have hr : fadd p a b = if p ≤ a % p + b % p then a % p + b % p - p else a % p + b % p := by
      rw [fadd_eq hv, Int.add_emod]
      split
      · rw [← Int.sub_emod_right, Int.emod_eq_of_lt (by omega) (by omega)]
      · rw [Int.emod_eq_of_lt (by omega) (by omega)]
    have Hr := hide hr
    clear hr
    have hp0 : (p == 0) = false := by simp; omega
    by_cases hc : p - b % p ≤ a % p
    · go_wp2_with fail
      refine (rValid_any _ _).mono ?_
      rintro ew1 w1 ⟨rfl, hb1⟩
      go_wp2
      refine wp_region_later Tryz.mixed (by kernel_rfl) ?_
      repeat (first | go_big_quiet_step (first | fail) | quiet_step (first | fail))
      refine wpQuiet_nil ?_
      intro w2 hb2
      replace hb2 := below_of_later hb2
      go_wp2
      go_ret
      exact ⟨ret_int (by rw [Hr.out, if_pos (by omega)]; omega), below2 hb1 hb2⟩
    · go_wp2_with fail
      refine (rValid_any _ _).mono ?_
      rintro ew1 w1 ⟨rfl, hb1⟩
      go_wp2
      refine wp_region_later Tryz.mixed (by kernel_rfl) ?_
      repeat (first | go_big_quiet_step (first | fail) | quiet_step (first | fail))
      refine wpQuiet_nil ?_
      intro w2 hb2
      replace hb2 := below_of_later hb2
      go_wp2
      go_ret
      exact ⟨ret_int (by rw [Hr.out, if_neg (by omega)]), below2 hb1 hb2⟩
  · have hv := vld_no hv
    have hr : fadd p a b = 0 := by rw [fadd, hv]; rfl
    go_wp2_with fail
    refine (rValid_any _ _).mono ?_
    rintro ew1 w1 ⟨rfl, hb⟩
    go_wp2
    go_ret
    exact ⟨ret_int hr.symm, hb⟩

theorem mul64_q (a b : Int) (w : World) (a0 : 0 ≤ a) (a1 : a < 18446744073709551616) (b0 : 0 ≤ b) (b1 : b < 18446744073709551616) :
    Calls Tryz.prog 107 #[.int .u64 a, .int .u64 b] w fun e w' => e = .returned (.tuple #[.int .u64 (a * b / 18446744073709551616), .int .u64 (a * b % 18446744073709551616)]) ∧ Below w.heap.size w w' := by
  obtain ⟨x, rfl⟩ := Int.eq_ofNat_of_zero_le a0
  obtain ⟨y, rfl⟩ := Int.eq_ofNat_of_zero_le b0
  refine (Tryz.bits_Mul64 x y (by omega) (by omega) w).mono ?_
  rintro e w' ⟨rfl, rfl⟩
  have e1 : ((x * y : Nat) : Int) = (x : Int) * (y : Int) := Int.natCast_mul _ _
  refine ⟨?_, Below.refl _ _⟩
  rw [← e1]
  rfl

set_option maxHeartbeats 400000 in
theorem rMul_any (p a b : Int) (w : World) (a0 : 0 ≤ a) (a1 : a < 18446744073709551616) (b0 : 0 ≤ b) (b1 : b < 18446744073709551616) :
    Calls Tryz.prog 56 #[.int .u64 p, .int .u64 a, .int .u64 b] w fun e w' => e = .returned (.int .u64 (fmul p a b)) ∧ Below w.heap.size w w' := by
  go_enter Tryz.func56, Tryz.ntmps56
  by_cases hv : vld p = true
  · have hp := vld_pos hv
    have ha := mod_lt' (p := p) (by omega) a
    have hb := mod_lt' (p := p) (by omega) b
    have hr : fmul p a b = (a % p * (b % p)) % p := by rw [fmul_eq hv, Int.mul_emod]
    have hp0 : (p == 0) = false := by simp; omega
    have Hr := hide hr
    have hm0 : 0 ≤ a % p * (b % p) := Int.mul_nonneg ha.1 hb.1
    have hlt : a % p * (b % p) / 18446744073709551616 < p := hi_lt (b := b % p) (l := a % p * (b % p) % 18446744073709551616) ha.1 ha.2 (by omega) (by omega) (by omega)
    have k1 : 0 ≤ a % p * (b % p) / 18446744073709551616 := by omega
    have k2 : 0 ≤ a % p * (b % p) % 18446744073709551616 := by omega
    have k3 : a % p * (b % p) % 18446744073709551616 < 18446744073709551616 := by omega
    have k4 : (a % p * (b % p) / 18446744073709551616) * 18446744073709551616 + a % p * (b % p) % 18446744073709551616 = a % p * (b % p) := by omega
    have K4 := hide k4
    clear hr k4
    go_wp2_with fail
    refine (rValid_any _ _).mono ?_
    rintro ew1 w1 ⟨rfl, hb1⟩
    go_wp2
    refine wp_region_later Tryz.mixed (by kernel_rfl) ?_
    repeat (first | go_big_quiet_step (first | (go_at_call 107; exact Calls.later_of (mul64_q _ _ _ (by omega) (by omega) (by omega) (by omega)))) | quiet_step (first | (go_at_call 107; exact Calls.later_of (mul64_q _ _ _ (by omega) (by omega) (by omega) (by omega)))))
    refine wpQuiet_nil ?_
    intro w2 hb2
    replace hb2 := below_of_later hb2
    go_wp2_with fail
    refine (div64_int _ _ _ _ k1 hlt (by omega) k2 k3).mono ?_
    rintro ew3 w3 ⟨rfl, hb3⟩
    go_wp2
    go_ret
    exact ⟨ret_int (by rw [Hr.out, K4.out]), below2 (below2 hb1 hb2) hb3⟩
  · have hv := vld_no hv
    have hr : fmul p a b = 0 := by rw [fmul, hv]; rfl
    go_wp2_with fail
    refine (rValid_any _ _).mono ?_
    rintro ew1 w1 ⟨rfl, hb⟩
    go_wp2
    go_ret
    exact ⟨ret_int hr.symm, hb⟩


/-- What holds at the head of the loop of a power. -/
structure RPow (p a e0 x r e : Int) (w wr : World) : Prop where
  x0 : 0 ≤ x
  x1 : x < p
  r0 : 0 ≤ r
  r1 : r < p
  n0 : 0 ≤ e
  n1 : e < 18446744073709551616
  h : r * x ^ e.toNat % p = a ^ e0.toNat % p
  b : Below w.heap.size w wr

theorem RPow.next {p a e0 x r e r' : Int} {w wr w2 : World} (H : RPow p a e0 x r e w wr) (hv : vld p = true) (he : 0 < e)
    (hr : r' = if e % 2 = 1 then fmul p r x else r) (hb : Below wr.heap.size wr w2) : RPow p a e0 (fmul p x x) r' (e / 2) w w2 := by
  have hp := vld_pos hv
  rw [fmul_eq hv] at hr
  have h1 := pow_step p x r e he
  rw [← hr] at h1
  have hxx := mod_lt' (show 0 < p by omega) (x * x)
  have hrx := mod_lt' (show 0 < p by omega) (r * x)
  have hr' : 0 ≤ r' ∧ r' < p := by
    rw [hr]; split
    · exact hrx
    · exact ⟨H.r0, H.r1⟩
  rw [fmul_eq hv]
  exact ⟨hxx.1, hxx.2, hr'.1, hr'.2, by have := H.n0; omega, by have := H.n1; omega, by rw [← H.h, h1], below2 H.b hb⟩

set_option maxHeartbeats 1000000 in
theorem rPow_any (p a e0 : Int) (w : World) (a0 : 0 ≤ a) (a1 : a < 18446744073709551616) (g0 : 0 ≤ e0) (g1 : e0 < 18446744073709551616) :
    Calls Tryz.prog 109 #[.int .u64 p, .int .u64 a, .int .u64 e0] w fun e w' => e = .returned (.int .u64 (fpow p a e0)) ∧ Below w.heap.size w w' := by
  go_enter Tryz.func109, Tryz.ntmps109
  by_cases hv : vld p = true
  · have hp := vld_pos hv
    have ha := mod_lt' (p := p) (by omega) a
    have hr : fpow p a e0 = (a % p) ^ e0.toNat % p := by rw [fpow, if_pos hv, powmod]
    have hp0 : (p == 0) = false := by simp; omega
    have Hr := hide hr
    clear hr
    go_wp2_with fail
    refine (rValid_any _ _).mono ?_
    rintro ew1 w1 ⟨rfl, hb1⟩
    go_wp2
    go_loopw [1, 2, 7] (fun t1 t2 t7 wr => ∃ x e r : Int, t1 = .int .u64 x ∧ t2 = .int .u64 e ∧ t7 = .int .u64 r ∧ RPow p (a % p) e0 x r e w wr) (fun _ t2 _ _ => (intOf t2).toNat)
    case atStart => exact ⟨a % p, e0, 1, rfl, rfl, rfl, ha.1, ha.2, by omega, by omega, g0, g1, by rw [Int.one_mul], hb1⟩
    case round =>
      obtain ⟨x, e, r, rfl, rfl, rfl, H⟩ := hrel
      have x0 := H.x0; have x1 := H.x1; have r0 := H.r0; have r1 := H.r1; have c0 := H.n0; have c1 := H.n1
      by_cases he : 0 < e
      · by_cases ho : e % 2 = 1
        · have hod : (e % 2 == 1) = true := by simp [ho]
          have HO := hide ho
          clear ho
          go_wp2_with fail
          refine (rMul_any p r x _ r0 (by omega) x0 (by omega)).mono ?_
          rintro ew2 w2 ⟨rfl, hb2⟩
          go_wp2_with fail
          refine (rMul_any p x x _ x0 (by omega) x0 (by omega)).mono ?_
          rintro ew3 w3 ⟨rfl, hb3⟩
          go_wp2
          go_roundw
          case rel => exact ⟨_, _, _, rfl, rfl, rfl, H.next hv he (by rw [if_pos HO.out]) (below2 hb2 hb3)⟩
          case measure => simp [intOf]; omega
        · have hod : (e % 2 == 1) = false := by simp [ho]
          have HO := hide ho
          clear ho
          go_wp2_with fail
          refine (rMul_any p x x _ x0 (by omega) x0 (by omega)).mono ?_
          rintro ew3 w3 ⟨rfl, hb3⟩
          go_wp2
          go_roundw
          case rel => exact ⟨_, _, _, rfl, rfl, rfl, H.next hv he (by rw [if_neg HO.out]) hb3⟩
          case measure => simp [intOf]; omega
      · go_wp2
        go_ret
        have := H.h
        rw [show e.toNat = 0 by omega, Int.pow_zero, Int.mul_one, Int.emod_eq_of_lt r0 r1] at this
        exact ⟨ret_int (by rw [Hr.out]; exact this), H.b⟩
  · have hv := vld_no hv
    have hr : fpow p a e0 = 0 := by rw [fpow, hv]; rfl
    go_wp2_with fail
    refine (rValid_any _ _).mono ?_
    rintro ew1 w1 ⟨rfl, hb⟩
    go_wp2
    go_ret
    exact ⟨ret_int hr.symm, hb⟩

/-- The sum of a list. -/
def fsum (p : Int) (xs : List Int) : Int := xs.foldl (fadd p) 0

theorem fsum_snoc (p : Int) (xs : List Int) (x : Int) : fsum p (xs ++ [x]) = fadd p (fsum p xs) x := by
  simp [fsum]

theorem fsum_bd (p : Int) (xs : List Int) : 0 ≤ fsum p xs ∧ fsum p xs < 18446744073709551616 := by
  unfold fsum
  have : ∀ (l : List Int) (s : Int), 0 ≤ s ∧ s < 18446744073709551616 → 0 ≤ l.foldl (fadd p) s ∧ l.foldl (fadd p) s < 18446744073709551616 := by
    intro l
    induction l with
    | nil => exact fun s h => h
    | cons x l ih => exact fun s _ => ih _ (fadd_bd _ _ _)
  exact this _ _ (by decide)

set_option maxHeartbeats 1000000 in
theorem rSum_any (p : Int) (a : Option Addr) (cap : Nat) (xs : List Int) (w : World) (hs : Sl w .u64 a xs) (hw : AllW xs) (hl : xs.length < 1099511627776) :
    Calls Tryz.prog 167 #[.int .u64 p, .slice a xs.length cap] w fun e w' => e = .returned (.int .u64 (fsum p xs)) ∧ Below w.heap.size w w' := by
  go_enter Tryz.func167, Tryz.ntmps167
  go_wp2
  go_loopw [5, 6] (fun t5 t6 wr => ∃ k : Nat, k ≤ xs.length ∧ t6 = .int .i64 k ∧ t5 = .int .u64 (fsum p (xs.take k)) ∧ Below w.heap.size w wr) (fun _ t6 _ => xs.length - (intOf t6).toNat)
  case atStart => exact ⟨0, Nat.zero_le _, rfl, rfl, Below.refl _ _⟩
  case round =>
    obtain ⟨k, hk, rfl, rfl, hb⟩ := hrel
    by_cases hlt : k < xs.length
    · obtain ⟨b, off, rfl, hbl, hc⟩ := (hs.mono hb).get hlt
      obtain ⟨x0, x1⟩ := hw.get hlt
      have hbd := fsum_bd p (xs.take k)
      have hst := fsum_snoc p (xs.take k) (xs.getD k 0)
      rw [← take_succ_getD xs 0 hlt] at hst
      obtain ⟨x, hx⟩ : ∃ x, x = xs.getD k 0 := ⟨_, rfl⟩
      obtain ⟨s, hs'⟩ : ∃ s, s = fsum p (xs.take k) := ⟨_, rfl⟩
      rw [← hx] at hc x0 x1 hst
      rw [← hs'] at hbd hst ⊢
      have Hst := hide hst
      clear hx hs' hst
      go_wp2_with fail
      refine (rAdd_any p s x _ hbd.1 hbd.2 x0 x1).mono ?_
      rintro ew2 w2 ⟨rfl, hb2⟩
      go_wp2
      go_roundw
      case rel => exact ⟨k + 1, by omega, by go_num, by rw [Hst.out], below2 hb hb2⟩
      case measure => simp [intOf]; omega
    · go_wp2
      go_ret
      exact ⟨ret_int (by rw [List.take_of_length_le (by omega)]), hb⟩

end Go.Proofs.YtalmgeefkcebdaaGreatDoor

