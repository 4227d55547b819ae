/- Equality of states; the reference's reduction; the examples of the chapter hold. -/
import Derived.Test.YtaklpdhhcnnclaaPermB
import Derived.ProofKit
import Derived.OpenShut
namespace Go.Proofs.Ytaklpdhhcnnclaa
open Go.RowKit

theorem Try.part0 (x0 x1 x2 : Value) (w : World) : (part 22 #[x0, x1, x2] 0).run Try.prog w = .ok x0 w := by kernel_rfl
theorem Try.part1 (x0 x1 x2 : Value) (w : World) : (part 22 #[x0, x1, x2] 1).run Try.prog w = .ok x1 w := by kernel_rfl
theorem Try.part2 (x0 x1 x2 : Value) (w : World) : (part 22 #[x0, x1, x2] 2).run Try.prog w = .ok x2 w := by kernel_rfl

theorem eq3D (D : Nat) (hD : ∀ a b w, (Op.equalIn D 22 (.int .u64 a) (.int .u64 b)).run Try.prog w = .ok (a == b) w) (a b c x y z : Int) (w : World) :
    (Op.equalIn (D + 1) 26 (.agg #[.int .u64 a, .int .u64 b, .int .u64 c]) (.agg #[.int .u64 x, .int .u64 y, .int .u64 z])).run Try.prog w = .ok (a == x && (b == y && c == z)) w := by
  have hu := Try.underlying26
  simp [Op.equalIn, run_underlying hu, List.range', Try.part0, Try.part1, Try.part2, hD]
  by_cases h1 : a = x <;> by_cases h2 : b = y <;> by_cases h3 : c = z <;> simp [h1, h2, h3]

/-- Are two states equal? -/
def eq3 (a b c x y z : Int) : Bool := a == x && (b == y && c == z)

@[go_sem] theorem run_equalIn3 (a b c x y z : Int) (w : World) :
    (Op.equalIn 10000 26 (.agg #[.int .u64 a, .int .u64 b, .int .u64 c]) (.agg #[.int .u64 x, .int .u64 y, .int .u64 z])).run Try.prog w = .ok (eq3 a b c x y z) w :=
  eq3D 9999 (fun a b w => run_equalIn_int w 9998 22 .u64 .u64 a b Try.underlying22) a b c x y z w

theorem eq3_self (a b c : Int) : eq3 a b c a b c = true := by simp [eq3]
theorem eq3_iff (s t : T3) : eq3 s.a s.b s.c t.a t.b t.c = decide (s.a = t.a ∧ s.b = t.b ∧ s.c = t.c) := by
  unfold eq3
  rw [Bool.eq_iff_iff]
  simp

set_option maxHeartbeats 400000 in
theorem rRed3_any (p : Int) (s : T3) (w : World) (hs : W3 s) :
    Calls Try.prog 30 #[.int .u64 p, .agg #[.int .u64 s.a, .int .u64 s.b, .int .u64 s.c]] w fun e w' => e = .returned (.agg #[.int .u64 (red3 p s).a, .int .u64 (red3 p s).b, .int .u64 (red3 p s).c]) ∧ Below w.heap.size w w' := by
  obtain ⟨⟨a0, a1⟩, ⟨b0, b1⟩, c0, c1⟩ := hs
  go_enter Try.func30, Try.ntmps30
  go_wp2_with fail
  refine name_world fun W hW => ?_
  have hB : Below w.heap.size w W := by rw [hW]; exact ((Below.refl _ _).alloc (Nat.le_refl _) _).alloc (by simp) _
  have q : Blk W w.heap.size (A3 s) 26 := by rw [hW]; exact (Blk.newAt rfl).alloc _
  have y : Blk W (w.heap.size + 1) (A3 ⟨0, 0, 0⟩) 26 := by rw [hW]; exact Blk.newAt (by simp)
  clear hW
  have k0 := cell_later' (q.cell (j := 0) (v := .int .u64 s.a) rfl)
  have k1 := cell_later' (q.cell (j := 1) (v := .int .u64 s.b) rfl)
  have k2 := cell_later' (q.cell (j := 2) (v := .int .u64 s.c) rfl)
  refine Rel.wp_region_later_tail 13 Try.mixed (by kernel_rfl) ?_
  simp only [List.take_succ_cons, List.take_zero, List.drop_succ_cons, List.drop_zero]
  repeat (first | go_big_quiet_step (first | (go_at_call 62; exact Calls.later_of (rReduce_any _ _ _ (by omega) (by omega)))) | quiet_step (first | (go_at_call 62; exact Calls.later_of (rReduce_any _ _ _ (by omega) (by omega)))))
  refine wpQuiet_nil ?_
  intro w1 hb1
  replace hb1 := below_of_later hb1
  clear k0 k1 k2
  have y1 := y.mono hb1
  have r0 := y1.cell (j := 0) (v := .int .u64 0) rfl
  have r1 := y1.cell (j := 1) (v := .int .u64 0) rfl
  have r2 := y1.cell (j := 2) (v := .int .u64 0) rfl
  have f := y1.free
  have z1 := y1.lt
  go_wp2
  refine bodyPost_ret (v := .agg #[.int .u64 (red3 p s).a, .int .u64 (red3 p s).b, .int .u64 (red3 p s).c]) (by simp [results, Try.results30, go_sem, r0, r1, r2, red3]) rfl ⟨rfl, ?_⟩
  exact (((below2 hB hb1).setCell (by simp) _).setCell (by simp) _).setCell (by simp) _

theorem ex0 : fconst 17 0 0 = 15 := by decide
theorem ex1 : fconst 17 0 1 = 12 := by decide
theorem ex2 : fconst 17 0 2 = 10 := by decide
theorem ex3 : mix 17 ⟨1, 2, 3⟩ = ⟨7, 8, 9⟩ := by decide +kernel

set_option maxHeartbeats 400000 in
theorem awake7 (w : World) : Calls Try.prog 24 #[] w fun e w' => e = .returned (.bool true) ∧ Below w.heap.size w w' := by
  go_enter Try.func24, Try.ntmps24
  have h0 := ex0; have h1 := ex1; have h2 := ex2
  go_wp2_with fail
  refine (Constant_any _ _ _ _).mono ?_
  rintro ew1 w1 ⟨rfl, hb1⟩
  rw [h0]
  go_wp2_with fail
  refine (Constant_any _ _ _ _).mono ?_
  rintro ew2 w2 ⟨rfl, hb2⟩
  rw [h1]
  go_wp2_with fail
  refine (Constant_any _ _ _ _).mono ?_
  rintro ew3 w3 ⟨rfl, hb3⟩
  rw [h2]
  have h3 := eq3_self 7 8 9
  go_wp2_with fail
  refine (Mix_any 17 ⟨1, 2, 3⟩ _ ⟨by decide, by decide, by decide⟩).mono ?_
  rintro e w4 ⟨rfl, hb4⟩
  rw [ex3]
  go_wp2
  go_ret
  exact ⟨rfl, below2 (below2 (below2 hb1 hb2) hb3) hb4⟩

end Go.Proofs.Ytaklpdhhcnnclaa
