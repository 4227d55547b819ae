/- Gadgets: SameLinear, New, Input of the reference. -/
import Derived.Test.YtlgjnidphldiiaaGadP
import Derived.Laws.StructEq
namespace Go.Proofs.Ytlgjnidphldiiaa
open Go.RowKit

theorem Try.undTm : Try.prog.underlying 100 = some (.struct (Try.prog.fieldsOf 100)) := by kernel_rfl
theorem Try.stoodTm : Try.prog.stoodInHeld 100 = false := by kernel_rfl
theorem Try.guardTm : Try.prog.eqGuardType Try.prog.depth 100 = false := by kernel_rfl
theorem run_neq_term (a b c d : Int) (w : World) : (binOp .neq 100 (.agg #[.int .i64 a, .int .u64 b]) (.agg #[.int .i64 c, .int .u64 d])).run Try.prog w = .ok (.bool (!(decide ((a, b) = (c, d))))) w := by
  rw [run_neq_struct, run_equalIn_agg _ _ _ _ _ Try.undTm Try.stoodTm]
  simp [Program.fieldsOf, Try.underlying100, Op.eqFields, part, go_sem, Try.underlying3, Try.underlying22]
  by_cases h1 : a = c <;> by_cases h2 : b = d <;> simp [h1, h2]

set_option maxHeartbeats 2000000 in
theorem SameLin_any (x y : Lc) (w : World) (hx : LcOk w x) (hy : LcOk w y) (lx : x.l.length ≤ 1000000000) :
    Calls Try.prog 19 #[.slice x.ad x.l.length x.cap, .slice y.ad y.l.length y.cap] w fun e w' => e = .returned (.bool (decide (x.l = y.l))) ∧ Below w.heap.size w w' := by
  go_enter Try.func19, Try.ntmps19
  by_cases hne : x.l.length = y.l.length
  · have hz : ((x.l.length : Int) != y.l.length) = false := by simp; omega
    go_wp2_with fail
    clear hz
    replace hne := hide hne
    go_loopw [5] (fun t5 wr => ∃ i : Nat, i ≤ x.l.length ∧ t5 = .int .i64 i ∧ Below w.heap.size w wr ∧ Hid (x.l.take i = y.l.take i)) (fun t5 _ => x.l.length - (intOf t5).toNat)
    case atStart => exact ⟨0, Nat.zero_le _, rfl, Below.refl _ _, hide (by simp)⟩
    case round =>
      obtain ⟨i, hi, rfl, hb, heq⟩ := hrel
      by_cases hlt : i < x.l.length
      · have hlt' : i < y.l.length := by have := hne.out; omega
        obtain ⟨b1, o1, e1, _, p0, p1⟩ := (hx.sl.mono hb).get hlt
        obtain ⟨b2, o2, e2, _, s0, s1⟩ := (hy.sl.mono hb).get hlt'
        rw [e1, e2]
        have hnext : Hid (x.l.getD i (0, 0) = y.l.getD i (0, 0) → x.l.take (i + 1) = y.l.take (i + 1)) := hide fun e => by
          rw [take_succ_getD x.l (0, 0) hlt, take_succ_getD y.l (0, 0) hlt', heq.out, e]
        have hstop : Hid (¬ x.l.getD i (0, 0) = y.l.getD i (0, 0) → decide (x.l = y.l) = false) := hide fun e => by
          simp only [decide_eq_false_iff_not]
          intro e'
          exact e (by rw [e'])
        generalize x.l.getD i (0, 0) = t at *
        generalize y.l.getD i (0, 0) = u at *
        obtain ⟨t1, t2⟩ := t
        obtain ⟨u1, u2⟩ := u
        simp only at p0 p1 s0 s1
        replace p0 := cell_later' p0
        replace p1 := cell_later' p1
        replace s0 := cell_later' s0
        replace s1 := cell_later' s1
        have hi1 : (i : Int) < x.l.length := by omega
        have hi2 : (i : Int) < y.l.length := by omega
        have hi0 : (0 : Int) ≤ i := by omega
        have hwi : IntKind.i64.wrap (i : Int) = i := by rw [IntKind.wrap_i64]; omega
        clear heq
        have hgd := Try.guardTm
        have hnq := fun W => run_neq_term t1 t2 u1 u2 W
        by_cases htu : (t1, t2) = (u1, u2)
        · rw [decide_eq_true htu] at hnq
          replace htu := hide htu
          go_wp2_with fail
          refine wp_region_later Try.mixed (by kernel_rfl) ?_
          repeat (first | go_big_quiet_step (first | fail) | quiet_step (first | fail))
          refine wpQuiet_nil ?_
          intro w2 hb2
          replace hb2 := below_of_later hb2
          clear hnq hgd p0 p1 s0 s1 hstop
          go_wp2_with fail
          go_roundw
          case rel => exact ⟨i + 1, by omega, by go_num, below2 hb hb2, hide (hnext.out htu.out)⟩
          case measure => simp [intOf]; omega
        · rw [decide_eq_false htu] at hnq
          replace htu := hide htu
          go_wp2_with fail
          refine wp_region_later Try.mixed (by kernel_rfl) ?_
          repeat (first | go_big_quiet_step (first | fail) | quiet_step (first | fail))
          refine wpQuiet_nil ?_
          intro w2 hb2
          replace hb2 := below_of_later hb2
          clear hnq hgd p0 p1 s0 s1 hnext
          go_wp2
          go_ret
          exact ⟨ret_bool (hstop.out htu.out).symm, below2 hb hb2⟩
      · go_wp2
        go_ret
        have : x.l = y.l := by
          have h := heq.out
          have := hne.out
          rwa [List.take_of_length_le (by omega), List.take_of_length_le (by omega)] at h
        exact ⟨ret_bool (by simp [this]), hb⟩
  · have hz : ((x.l.length : Int) != y.l.length) = true := by simp; omega
    have hd : Hid (decide (x.l = y.l) = false) := hide (by
      simp only [decide_eq_false_iff_not]
      intro e; exact hne (by rw [e]))
    go_wp2
    go_ret
    exact ⟨ret_bool hd.out.symm, Below.refl _ _⟩
end Go.Proofs.Ytlgjnidphldiiaa
