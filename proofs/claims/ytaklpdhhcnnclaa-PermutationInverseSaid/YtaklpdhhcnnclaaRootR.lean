/- The exponent that undoes the permutation's power: the walk of the reference's search, for each known prime. -/
import Derived.Test.YtaklpdhhcnnclaaRoot
namespace Go.Proofs.Ytaklpdhhcnnclaa
open Go.RowKit

set_option maxHeartbeats 4000000 in
theorem rRoot_any (p : Int) (hv : vld p = true) (w : World) :
    Calls Try.prog 74 #[.int .u64 p] w fun e w' => e = .returned (.int .u64 (droot p)) ∧ Below w.heap.size w w' := by
  rcases vld_cases hv with rfl | rfl | rfl | rfl | rfl | rfl | rfl
  · have hd : droot 18446744069414584321 = 10540996611094048183 := by decide
    rw [hd]
    have hE : ∀ W : World, Calls Try.prog 72 #[.int .u64 18446744069414584321] W fun e w' => e = .returned (.int .u64 7) ∧ Below W.heap.size W w' := fun W => rExponent_any 18446744069414584321 W
    clear hd hv
    go_enter Try.func74, Try.ntmps74
    go_wp2_with fail
    refine (hE _).mono ?_
    rintro ew1 w1 ⟨rfl, hB⟩
    go_wp2_with fail
    refine Rel.wp_region_later_tail 9 Try.mixed (by kernel_rfl) ?_
    simp only [List.take_succ_cons, List.take_zero, List.drop_succ_cons, List.drop_zero]
    repeat (first | go_big_quiet_step (first | fail) | quiet_step (first | fail))
    refine wpQuiet_nil ?_
    intro w2 hb2
    replace hb2 := below_of_later hb2
    replace hB := below2 hB hb2
    clear hb2
    go_wp2
    go_loopw [6] (fun t6 wr => ∃ k : Nat, 0 ≤ k ∧ k ≤ 4 ∧ t6 = .int .u64 k ∧ Below w.heap.size w wr) (fun t6 _ => 10 - (intOf t6).toNat)
    case atStart => exact ⟨0, by omega, by omega, rfl, hB⟩
    case round =>
      obtain ⟨k, k1, hk, rfl, G⟩ := hrel
      clear hB
      by_cases hlt : k < 4
      · rcases (show k = 0 ∨ k = 1 ∨ k = 2 ∨ k = 3 by omega) with rfl | rfl | rfl | rfl
        all_goals first
          | (exfalso; omega)
          | (go_wp2
             go_roundw
             case rel => first | exact ⟨1, by omega, by omega, rfl, G⟩ | exact ⟨2, by omega, by omega, rfl, G⟩ | exact ⟨3, by omega, by omega, rfl, G⟩ | exact ⟨4, by omega, by omega, rfl, G⟩
             case measure => simp [intOf])
      · obtain rfl : k = 4 := by omega
        go_wp2
        go_ret
        exact ⟨rfl, G⟩
  · have hd : droot 17 = 11 := by decide
    rw [hd]
    have hE : ∀ W : World, Calls Try.prog 72 #[.int .u64 17] W fun e w' => e = .returned (.int .u64 3) ∧ Below W.heap.size W w' := fun W => rExponent_any 17 W
    clear hd hv
    go_enter Try.func74, Try.ntmps74
    go_wp2_with fail
    refine (hE _).mono ?_
    rintro ew1 w1 ⟨rfl, hB⟩
    go_wp2_with fail
    refine Rel.wp_region_later_tail 9 Try.mixed (by kernel_rfl) ?_
    simp only [List.take_succ_cons, List.take_zero, List.drop_succ_cons, List.drop_zero]
    repeat (first | go_big_quiet_step (first | fail) | quiet_step (first | fail))
    refine wpQuiet_nil ?_
    intro w2 hb2
    replace hb2 := below_of_later hb2
    replace hB := below2 hB hb2
    clear hb2
    go_wp2
    go_loopw [6] (fun t6 wr => ∃ k : Nat, 0 ≤ k ∧ k ≤ 2 ∧ t6 = .int .u64 k ∧ Below w.heap.size w wr) (fun t6 _ => 10 - (intOf t6).toNat)
    case atStart => exact ⟨0, by omega, by omega, rfl, hB⟩
    case round =>
      obtain ⟨k, k1, hk, rfl, G⟩ := hrel
      clear hB
      by_cases hlt : k < 2
      · rcases (show k = 0 ∨ k = 1 ∨ k = 2 ∨ k = 3 by omega) with rfl | rfl | rfl | rfl
        all_goals first
          | (exfalso; omega)
          | (go_wp2
             go_roundw
             case rel => first | exact ⟨1, by omega, by omega, rfl, G⟩ | exact ⟨2, by omega, by omega, rfl, G⟩ | exact ⟨3, by omega, by omega, rfl, G⟩ | exact ⟨4, by omega, by omega, rfl, G⟩
             case measure => simp [intOf])
      · obtain rfl : k = 2 := by omega
        go_wp2
        go_ret
        exact ⟨rfl, G⟩
  · have hd : droot 97 = 77 := by decide
    rw [hd]
    have hE : ∀ W : World, Calls Try.prog 72 #[.int .u64 97] W fun e w' => e = .returned (.int .u64 5) ∧ Below W.heap.size W w' := fun W => rExponent_any 97 W
    clear hd hv
    go_enter Try.func74, Try.ntmps74
    go_wp2_with fail
    refine (hE _).mono ?_
    rintro ew1 w1 ⟨rfl, hB⟩
    go_wp2_with fail
    refine Rel.wp_region_later_tail 9 Try.mixed (by kernel_rfl) ?_
    simp only [List.take_succ_cons, List.take_zero, List.drop_succ_cons, List.drop_zero]
    repeat (first | go_big_quiet_step (first | fail) | quiet_step (first | fail))
    refine wpQuiet_nil ?_
    intro w2 hb2
    replace hb2 := below_of_later hb2
    replace hB := below2 hB hb2
    clear hb2
    go_wp2
    go_loopw [6] (fun t6 wr => ∃ k : Nat, 0 ≤ k ∧ k ≤ 4 ∧ t6 = .int .u64 k ∧ Below w.heap.size w wr) (fun t6 _ => 10 - (intOf t6).toNat)
    case atStart => exact ⟨0, by omega, by omega, rfl, hB⟩
    case round =>
      obtain ⟨k, k1, hk, rfl, G⟩ := hrel
      clear hB
      by_cases hlt : k < 4
      · rcases (show k = 0 ∨ k = 1 ∨ k = 2 ∨ k = 3 by omega) with rfl | rfl | rfl | rfl
        all_goals first
          | (exfalso; omega)
          | (go_wp2
             go_roundw
             case rel => first | exact ⟨1, by omega, by omega, rfl, G⟩ | exact ⟨2, by omega, by omega, rfl, G⟩ | exact ⟨3, by omega, by omega, rfl, G⟩ | exact ⟨4, by omega, by omega, rfl, G⟩
             case measure => simp [intOf])
      · obtain rfl : k = 4 := by omega
        go_wp2
        go_ret
        exact ⟨rfl, G⟩
  · have hd : droot 193 = 77 := by decide
    rw [hd]
    have hE : ∀ W : World, Calls Try.prog 72 #[.int .u64 193] W fun e w' => e = .returned (.int .u64 5) ∧ Below W.heap.size W w' := fun W => rExponent_any 193 W
    clear hd hv
    go_enter Try.func74, Try.ntmps74
    go_wp2_with fail
    refine (hE _).mono ?_
    rintro ew1 w1 ⟨rfl, hB⟩
    go_wp2_with fail
    refine Rel.wp_region_later_tail 9 Try.mixed (by kernel_rfl) ?_
    simp only [List.take_succ_cons, List.take_zero, List.drop_succ_cons, List.drop_zero]
    repeat (first | go_big_quiet_step (first | fail) | quiet_step (first | fail))
    refine wpQuiet_nil ?_
    intro w2 hb2
    replace hb2 := below_of_later hb2
    replace hB := below2 hB hb2
    clear hb2
    go_wp2
    go_loopw [6] (fun t6 wr => ∃ k : Nat, 0 ≤ k ∧ k ≤ 2 ∧ t6 = .int .u64 k ∧ Below w.heap.size w wr) (fun t6 _ => 10 - (intOf t6).toNat)
    case atStart => exact ⟨0, by omega, by omega, rfl, hB⟩
    case round =>
      obtain ⟨k, k1, hk, rfl, G⟩ := hrel
      clear hB
      by_cases hlt : k < 2
      · rcases (show k = 0 ∨ k = 1 ∨ k = 2 ∨ k = 3 by omega) with rfl | rfl | rfl | rfl
        all_goals first
          | (exfalso; omega)
          | (go_wp2
             go_roundw
             case rel => first | exact ⟨1, by omega, by omega, rfl, G⟩ | exact ⟨2, by omega, by omega, rfl, G⟩ | exact ⟨3, by omega, by omega, rfl, G⟩ | exact ⟨4, by omega, by omega, rfl, G⟩
             case measure => simp [intOf])
      · obtain rfl : k = 2 := by omega
        go_wp2
        go_ret
        exact ⟨rfl, G⟩
  · have hd : droot 257 = 171 := by decide
    rw [hd]
    have hE : ∀ W : World, Calls Try.prog 72 #[.int .u64 257] W fun e w' => e = .returned (.int .u64 3) ∧ Below W.heap.size W w' := fun W => rExponent_any 257 W
    clear hd hv
    go_enter Try.func74, Try.ntmps74
    go_wp2_with fail
    refine (hE _).mono ?_
    rintro ew1 w1 ⟨rfl, hB⟩
    go_wp2_with fail
    refine Rel.wp_region_later_tail 9 Try.mixed (by kernel_rfl) ?_
    simp only [List.take_succ_cons, List.take_zero, List.drop_succ_cons, List.drop_zero]
    repeat (first | go_big_quiet_step (first | fail) | quiet_step (first | fail))
    refine wpQuiet_nil ?_
    intro w2 hb2
    replace hb2 := below_of_later hb2
    replace hB := below2 hB hb2
    clear hb2
    go_wp2
    go_loopw [6] (fun t6 wr => ∃ k : Nat, 0 ≤ k ∧ k ≤ 2 ∧ t6 = .int .u64 k ∧ Below w.heap.size w wr) (fun t6 _ => 10 - (intOf t6).toNat)
    case atStart => exact ⟨0, by omega, by omega, rfl, hB⟩
    case round =>
      obtain ⟨k, k1, hk, rfl, G⟩ := hrel
      clear hB
      by_cases hlt : k < 2
      · rcases (show k = 0 ∨ k = 1 ∨ k = 2 ∨ k = 3 by omega) with rfl | rfl | rfl | rfl
        all_goals first
          | (exfalso; omega)
          | (go_wp2
             go_roundw
             case rel => first | exact ⟨1, by omega, by omega, rfl, G⟩ | exact ⟨2, by omega, by omega, rfl, G⟩ | exact ⟨3, by omega, by omega, rfl, G⟩ | exact ⟨4, by omega, by omega, rfl, G⟩
             case measure => simp [intOf])
      · obtain rfl : k = 2 := by omega
        go_wp2
        go_ret
        exact ⟨rfl, G⟩
  · have hd : droot 12289 = 7373 := by decide
    rw [hd]
    have hE : ∀ W : World, Calls Try.prog 72 #[.int .u64 12289] W fun e w' => e = .returned (.int .u64 5) ∧ Below W.heap.size W w' := fun W => rExponent_any 12289 W
    clear hd hv
    go_enter Try.func74, Try.ntmps74
    go_wp2_with fail
    refine (hE _).mono ?_
    rintro ew1 w1 ⟨rfl, hB⟩
    go_wp2_with fail
    refine Rel.wp_region_later_tail 9 Try.mixed (by kernel_rfl) ?_
    simp only [List.take_succ_cons, List.take_zero, List.drop_succ_cons, List.drop_zero]
    repeat (first | go_big_quiet_step (first | fail) | quiet_step (first | fail))
    refine wpQuiet_nil ?_
    intro w2 hb2
    replace hb2 := below_of_later hb2
    replace hB := below2 hB hb2
    clear hb2
    go_wp2
    go_loopw [6] (fun t6 wr => ∃ k : Nat, 0 ≤ k ∧ k ≤ 3 ∧ t6 = .int .u64 k ∧ Below w.heap.size w wr) (fun t6 _ => 10 - (intOf t6).toNat)
    case atStart => exact ⟨0, by omega, by omega, rfl, hB⟩
    case round =>
      obtain ⟨k, k1, hk, rfl, G⟩ := hrel
      clear hB
      by_cases hlt : k < 3
      · rcases (show k = 0 ∨ k = 1 ∨ k = 2 ∨ k = 3 by omega) with rfl | rfl | rfl | rfl
        all_goals first
          | (exfalso; omega)
          | (go_wp2
             go_roundw
             case rel => first | exact ⟨1, by omega, by omega, rfl, G⟩ | exact ⟨2, by omega, by omega, rfl, G⟩ | exact ⟨3, by omega, by omega, rfl, G⟩ | exact ⟨4, by omega, by omega, rfl, G⟩
             case measure => simp [intOf])
      · obtain rfl : k = 3 := by omega
        go_wp2
        go_ret
        exact ⟨rfl, G⟩
  · have hd : droot 65537 = 43691 := by decide
    rw [hd]
    have hE : ∀ W : World, Calls Try.prog 72 #[.int .u64 65537] W fun e w' => e = .returned (.int .u64 3) ∧ Below W.heap.size W w' := fun W => rExponent_any 65537 W
    clear hd hv
    go_enter Try.func74, Try.ntmps74
    go_wp2_with fail
    refine (hE _).mono ?_
    rintro ew1 w1 ⟨rfl, hB⟩
    go_wp2_with fail
    refine Rel.wp_region_later_tail 9 Try.mixed (by kernel_rfl) ?_
    simp only [List.take_succ_cons, List.take_zero, List.drop_succ_cons, List.drop_zero]
    repeat (first | go_big_quiet_step (first | fail) | quiet_step (first | fail))
    refine wpQuiet_nil ?_
    intro w2 hb2
    replace hb2 := below_of_later hb2
    replace hB := below2 hB hb2
    clear hb2
    go_wp2
    go_loopw [6] (fun t6 wr => ∃ k : Nat, 0 ≤ k ∧ k ≤ 2 ∧ t6 = .int .u64 k ∧ Below w.heap.size w wr) (fun t6 _ => 10 - (intOf t6).toNat)
    case atStart => exact ⟨0, by omega, by omega, rfl, hB⟩
    case round =>
      obtain ⟨k, k1, hk, rfl, G⟩ := hrel
      clear hB
      by_cases hlt : k < 2
      · rcases (show k = 0 ∨ k = 1 ∨ k = 2 ∨ k = 3 by omega) with rfl | rfl | rfl | rfl
        all_goals first
          | (exfalso; omega)
          | (go_wp2
             go_roundw
             case rel => first | exact ⟨1, by omega, by omega, rfl, G⟩ | exact ⟨2, by omega, by omega, rfl, G⟩ | exact ⟨3, by omega, by omega, rfl, G⟩ | exact ⟨4, by omega, by omega, rfl, G⟩
             case measure => simp [intOf])
      · obtain rfl : k = 2 := by omega
        go_wp2
        go_ret
        exact ⟨rfl, G⟩

end Go.Proofs.Ytaklpdhhcnnclaa
