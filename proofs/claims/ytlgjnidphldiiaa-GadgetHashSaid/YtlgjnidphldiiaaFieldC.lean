/- The contracts of the field's exported functions. -/
import Derived.Test.YtlgjnidphldiiaaFieldB
namespace Go.Proofs.Ytlgjnidphldiiaa
open Go.RowKit

theorem vld_no {p : Int} (h : ¬ vld p = true) : vld p = false := by simpa using h

theorem fadd_eq {p : Int} (h : vld p = true) (a b : Int) : fadd p a b = (a + b) % p := by rw [fadd, if_pos h]
theorem fmul_eq {p : Int} (h : vld p = true) (a b : Int) : fmul p a b = (a * b) % p := by rw [fmul, if_pos h]

/-- The first cell of the call's own first block, behind whatever has come. -/
theorem own_cell {w W w1 : World} {v : Value} {T : TypeId} (hW : W = w.alloc (.cells #[v] T)) (hb : Below W.heap.size W w1) : w1.cell? ⟨w.heap.size, 0, none⟩ = some v := by
  subst hW
  rw [hb.cell (by simp)]
  simp [go_sem]
theorem own_below {w W w1 : World} {v : Value} {T : TypeId} (hW : W = w.alloc (.cells #[v] T)) (hb : Below W.heap.size W w1) : Below w.heap.size w w1 := by
  subst hW
  exact ((Below.refl _ _).alloc (Nat.le_refl _) _).trans (hb.mono (by simp))
theorem below2 {w w1 w2 : World} (h : Below w.heap.size w w1) (h' : Below w1.heap.size w1 w2) : Below w.heap.size w w2 := h.trans (h'.mono h.size)

set_option maxHeartbeats 400000 in
theorem Reduce_any (p n : Int) (w : World) (g0 : 0 ≤ n) (g1 : n < 18446744073709551616) :
    Calls Try.prog 100 #[.agg #[.int .u64 p], .int .u64 n] w fun e w' => e = .returned (.int .u64 (fred p n)) ∧ Below w.heap.size w w' := by
  go_enter Try.func100, Try.ntmps100
  by_cases hv : vld p = true
  · have hp := vld_pos hv
    have hr : fred p n = n % p := by rw [fred, if_pos hv]
    have Hr := hide hr
    clear hr
    go_wp2_with fail
    refine (valid_any _ _).mono ?_
    rintro ew1 w1 ⟨rfl, hb1⟩
    have hc := own_cell rfl hb1
    have hb := own_below rfl hb1
    clear hb1
    go_wp2_with fail
    refine (reduced_any p n _ (by omega) (by omega) g0 g1).mono ?_
    rintro ew2 w2 ⟨rfl, hb2⟩
    go_wp2
    go_ret
    exact ⟨ret_int Hr.out.symm, below2 hb hb2⟩
  · have hv := vld_no hv
    have hr : fred p n = 0 := by rw [fred, hv]; rfl
    go_wp2_with fail
    refine (valid_any _ _).mono ?_
    rintro ew1 w1 ⟨rfl, hb1⟩
    have hb := own_below rfl hb1
    clear hb1
    go_wp2
    go_ret
    exact ⟨ret_int hr.symm, hb⟩

set_option maxHeartbeats 400000 in
theorem Add_any (p a b : Int) (w : World) (a0 : 0 ≤ a) (a1 : a < 18446744073709551616) (b0 : 0 ≤ b) (b1 : b < 18446744073709551616) :
    Calls Try.prog 79 #[.agg #[.int .u64 p], .int .u64 a, .int .u64 b] w fun e w' => e = .returned (.int .u64 (fadd p a b)) ∧ Below w.heap.size w w' := by
  go_enter Try.func79, Try.ntmps79
  by_cases hv : vld p = true
  · have hp := vld_pos hv
    have ha := mod_lt' (p := p) (by omega) a
    have hb := mod_lt' (p := p) (by omega) b
    have hr := fadd_eq hv a b
    have Hr := hide hr
    clear hr
    go_wp2_with fail
    refine (valid_any _ _).mono ?_
    rintro ew1 w1 ⟨rfl, hb1⟩
    have hc := own_cell rfl hb1
    have hb := own_below rfl hb1
    clear hb1
    have hc' := cell_later' hc
    go_wp2_with fail
    refine wp_region_later Try.mixed (by kernel_rfl) ?_
    repeat (quiet_step (first | (go_at_call 112; exact Calls.later_of (reduced_any _ _ _ (by omega) (by omega) (by omega) (by omega))) | (go_at_call 111; exact Calls.later_of (add_any _ _ _ _ (by omega) (by omega) (by omega) (by omega) (by omega) (by omega)))))
    refine wpQuiet_nil ?_
    intro w2 hb2
    replace hb2 := below_of_later hb2
    go_wp2
    go_ret
    exact ⟨ret_int Hr.out.symm, below2 hb hb2⟩
  · have hv := vld_no hv
    have hr : fadd p a b = 0 := by rw [fadd, hv]; rfl
    go_wp2_with fail
    refine (valid_any _ _).mono ?_
    rintro ew1 w1 ⟨rfl, hb1⟩
    have hb := own_below rfl hb1
    clear hb1
    go_wp2
    go_ret
    exact ⟨ret_int hr.symm, hb⟩

set_option maxHeartbeats 400000 in
theorem Mul_any (p a b : Int) (w : World) (a0 : 0 ≤ a) (a1 : a < 18446744073709551616) (b0 : 0 ≤ b) (b1 : b < 18446744073709551616) :
    Calls Try.prog 80 #[.agg #[.int .u64 p], .int .u64 a, .int .u64 b] w fun e w' => e = .returned (.int .u64 (fmul p a b)) ∧ Below w.heap.size w w' := by
  go_enter Try.func80, Try.ntmps80
  by_cases hv : vld p = true
  · have hp := vld_pos hv
    have ha := mod_lt' (p := p) (by omega) a
    have hb := mod_lt' (p := p) (by omega) b
    have hr : fmul p a b = (a % p * (b % p)) % p := by rw [fmul_eq hv, Int.mul_emod]
    have Hr := hide hr
    clear hr
    go_wp2_with fail
    refine (valid_any _ _).mono ?_
    rintro ew1 w1 ⟨rfl, hb1⟩
    have hc := own_cell rfl hb1
    have hb := own_below rfl hb1
    clear hb1
    have hc' := cell_later' hc
    go_wp2_with fail
    refine wp_region_later Try.mixed (by kernel_rfl) ?_
    repeat (quiet_step (first | (go_at_call 112; exact Calls.later_of (reduced_any _ _ _ (by omega) (by omega) (by omega) (by omega))) | (go_at_call 113; exact Calls.later_of (mul_any _ _ _ _ (by omega) (by omega) (by omega) (by omega) (by omega) (by omega)))))
    refine wpQuiet_nil ?_
    intro w2 hb2
    replace hb2 := below_of_later hb2
    go_wp2
    go_ret
    exact ⟨ret_int (by rw [Hr.out]), below2 hb hb2⟩
  · have hv := vld_no hv
    have hr : fmul p a b = 0 := by rw [fmul, hv]; rfl
    go_wp2_with fail
    refine (valid_any _ _).mono ?_
    rintro ew1 w1 ⟨rfl, hb1⟩
    have hb := own_below rfl hb1
    clear hb1
    go_wp2
    go_ret
    exact ⟨ret_int hr.symm, hb⟩

theorem powmod (p a : Int) (k : Nat) : (a % p) ^ k % p = a ^ k % p := by
  induction k with
  | zero => simp
  | succ k ih => rw [Int.pow_succ, Int.pow_succ, Int.mul_emod, ih, Int.emod_emod_of_dvd _ (Int.dvd_refl p), ← Int.mul_emod]

theorem fneg_eq {p : Int} (h : vld p = true) (a : Int) : fneg p a = if fred p a = 0 then 0 else p - fred p a := by
  have hp := vld_pos h
  have hr := mod_lt' (p := p) (by omega) a
  have hs : fneg p a = (p - a % p) % p := by
    rw [fneg, if_pos h, Int.sub_emod, Int.emod_self, Int.emod_emod_of_dvd _ (Int.dvd_refl p), Int.neg_emod_eq_sub_emod, Int.sub_emod p a p, Int.emod_self]
  rw [hs, fred, if_pos h]
  split
  · rename_i h0; rw [h0, Int.sub_zero, Int.emod_self]
  · rw [Int.emod_eq_of_lt (by omega) (by omega)]

set_option maxHeartbeats 400000 in
theorem Neg_any (p a : Int) (w : World) (a0 : 0 ≤ a) (a1 : a < 18446744073709551616) :
    Calls Try.prog 77 #[.agg #[.int .u64 p], .int .u64 a] w fun e w' => e = .returned (.int .u64 (fneg p a)) ∧ Below w.heap.size w w' := by
  go_enter Try.func77, Try.ntmps77
  have hbd := fred_bd p a
  by_cases h0 : fred p a = 0
  · have hr : fneg p a = 0 := by
      by_cases hv : vld p = true
      · rw [fneg_eq hv, if_pos h0]
      · rw [fneg, vld_no hv]; rfl
    have Hr := hide hr
    clear hr
    have h1 : (fred p a == 0) = true := by simp [h0]
    clear h0
    go_wp2_with fail
    refine (Reduce_any _ _ _ a0 a1).mono ?_
    rintro ew1 w1 ⟨rfl, hb1⟩
    have hb := own_below rfl hb1
    clear hb1
    go_wp2
    go_ret
    exact ⟨ret_int Hr.out.symm, hb⟩
  · have hv : vld p = true := by
      by_cases hv : vld p = true
      · exact hv
      · exact absurd (by rw [fred, vld_no hv]; rfl) h0
    have hp := vld_pos hv
    have hr : fneg p a = p - fred p a := by rw [fneg_eq hv, if_neg h0]
    have hlt : fred p a < p := by rw [fred, if_pos hv]; exact (mod_lt' (by omega) a).2
    have Hr := hide hr
    have h1 : (fred p a == 0) = false := by simp [h0]
    clear hr h0
    go_wp2_with fail
    refine (Reduce_any _ _ _ a0 a1).mono ?_
    rintro ew1 w1 ⟨rfl, hb1⟩
    have hc := own_cell rfl hb1
    have hb := own_below rfl hb1
    clear hb1
    go_wp2
    go_ret
    exact ⟨ret_int Hr.out.symm, hb⟩

theorem fsub_eq (p a b : Int) : fadd p a (fneg p b) = fsub p a b := by
  unfold fadd fneg fsub
  split
  · rw [Int.add_emod_emod, Int.sub_eq_add_neg]
  · rfl

/-- The row of a table over the known primes: 0 if p is none. -/
def fnum (a b c d e f g : Int) (p : Int) : Int := if p = 17 then a else if p = 97 then b else if p = 193 then c else if p = 257 then d else if p = 12289 then e else if p = 65537 then f else if p = 18446744069414584321 then g else 0
def fgen : Int → Int := fnum 3 5 5 3 11 3 7
def fadi : Int → Int := fnum 4 5 6 8 12 16 32
def fexp : Int → Int := fnum 3 5 5 3 5 3 7

set_option maxHeartbeats 800000 in
theorem numbers_any (p : Int) (w : World) :
    Calls Try.prog 149 #[.agg #[.int .u64 p]] w fun e w' => e = .returned (.tuple #[.int .u64 (fgen p), .int .i64 (fadi p), .int .u64 (fexp p)]) ∧ Below w.heap.size w w' := by
  go_enter Try.func149, Try.ntmps149
  go_wp2
  all_goals
    go_ret3
    exact ⟨by simp_all [fexp, fgen, fadi, fnum], (Below.refl _ _).alloc (Nat.le_refl _) _⟩

set_option maxHeartbeats 400000 in
theorem Exponent_any (p : Int) (w : World) :
    Calls Try.prog 137 #[.agg #[.int .u64 p]] w fun e w' => e = .returned (.int .u64 (fexp p)) ∧ Below w.heap.size w w' := by
  go_enter Try.func137, Try.ntmps137
  go_wp2_with fail
  refine (numbers_any _ _).mono ?_
  rintro ew1 w1 ⟨rfl, hb1⟩
  have hb := own_below rfl hb1
  clear hb1
  go_wp2
  go_ret
  exact ⟨rfl, hb⟩

end Go.Proofs.Ytlgjnidphldiiaa
