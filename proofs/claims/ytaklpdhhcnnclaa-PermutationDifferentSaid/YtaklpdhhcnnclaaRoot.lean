/- The exponent that undoes the permutation's power: the walks of the program's and of the reference's search, for each known prime. -/
import Derived.Test.YtaklpdhhcnnclaaPermuteR
import Derived.Test.YtaklpdhhcnnclaaFermat
namespace Go.Proofs.Ytaklpdhhcnnclaa
open Go.RowKit

def droot : Int → Int := fnum 11 77 77 171 7373 43691 10540996611094048183

set_option maxHeartbeats 4000000 in
theorem rootExponent_any (p : Int) (hv : vld p = true) (w : World) :
    Calls Try.prog 73 #[.agg #[.int .u64 p]] w fun e w' => e = .returned (.int .u64 (droot p)) ∧ Below w.heap.size w w' := by
  rcases vld_cases hv with rfl | rfl | rfl | rfl | rfl | rfl | rfl
  · have hd : droot 18446744069414584321 = 10540996611094048183 := by decide
    rw [hd]
    have hE : ∀ W : World, Calls Try.prog 69 #[.agg #[.int .u64 18446744069414584321]] W fun e w' => e = .returned (.int .u64 7) ∧ Below W.heap.size W w' := fun W => Exponent_any 18446744069414584321 W
    clear hd hv
    go_enter Try.func73, Try.ntmps73
    go_wp2_with fail
    refine name_world fun W hW => ?_
    have hB : Below w.heap.size w W := by rw [hW]; exact (Below.refl _ _).alloc (Nat.le_refl _) _
    have q := cell_later' (show W.cell? ⟨w.heap.size, 0, none⟩ = some (.int .u64 18446744069414584321) by rw [hW]; simp [go_sem])
    clear hW
    refine Rel.wp_region_later_tail 6 Try.mixed (by kernel_rfl) ?_
    simp only [List.take_succ_cons, List.take_zero, List.drop_succ_cons, List.drop_zero]
    repeat (first | go_big_quiet_step (first | (go_at_call 69; exact Calls.later_of (hE _))) | quiet_step (first | (go_at_call 69; exact Calls.later_of (hE _))))
    refine wpQuiet_nil ?_
    intro w1 hb1
    replace hb1 := below_of_later hb1
    replace hB := below2 hB hb1
    clear hb1 q
    go_wp2
    go_loopw [5] (fun t5 wr => ∃ k : Nat, 1 ≤ k ∧ k ≤ 4 ∧ t5 = .int .u64 k ∧ Below w.heap.size w wr) (fun t5 _ => 10 - (intOf t5).toNat)
    case atStart => exact ⟨1, by omega, by omega, rfl, hB⟩
    case round =>
      obtain ⟨k, k1, hk, rfl, G⟩ := hrel
      clear hB
      by_cases hlt : k < 4
      · rcases (show k = 1 ∨ k = 2 ∨ k = 3 by omega) with rfl | rfl | rfl
        all_goals first
          | (exfalso; omega)
          | (go_wp2
             go_roundw
             case rel => first | exact ⟨2, by omega, by omega, rfl, G⟩ | exact ⟨3, by omega, by omega, rfl, G⟩ | exact ⟨4, by omega, by omega, rfl, G⟩
             case measure => simp [intOf])
      · obtain rfl : k = 4 := by omega
        go_wp2_with fail
        refine (mul64_q 4 18446744069414584320 _ (by omega) (by omega) (by omega) (by omega)).mono ?_
        rintro ew2 w2 ⟨rfl, hb2⟩
        replace G := below2 G hb2
        have ka := add64_0 18446744056529682432 1 (by omega) (by omega)
        have h1 : ((3 : Int) * 18446744073709551616 + 18446744056529682433) / 7 = 10540996611094048183 := by decide
        have h2 : ((3 : Int) * 18446744073709551616 + 18446744056529682433) % 7 = 0 := by decide
        have hD : ∀ W : World, _ := fun W => div64_int 3 18446744056529682433 7 W (by omega) (by omega) (by omega) (by omega) (by omega)
        rw [h1, h2] at hD
        clear h1 h2
        go_wp2_with fail
        refine (hD _).mono ?_
        rintro ew3 w3 ⟨rfl, hb3⟩
        replace G := below2 G hb3
        go_wp2
        go_ret
        exact ⟨rfl, G⟩
  · have hd : droot 17 = 11 := by decide
    rw [hd]
    have hE : ∀ W : World, Calls Try.prog 69 #[.agg #[.int .u64 17]] W fun e w' => e = .returned (.int .u64 3) ∧ Below W.heap.size W w' := fun W => Exponent_any 17 W
    clear hd hv
    go_enter Try.func73, Try.ntmps73
    go_wp2_with fail
    refine name_world fun W hW => ?_
    have hB : Below w.heap.size w W := by rw [hW]; exact (Below.refl _ _).alloc (Nat.le_refl _) _
    have q := cell_later' (show W.cell? ⟨w.heap.size, 0, none⟩ = some (.int .u64 17) by rw [hW]; simp [go_sem])
    clear hW
    refine Rel.wp_region_later_tail 6 Try.mixed (by kernel_rfl) ?_
    simp only [List.take_succ_cons, List.take_zero, List.drop_succ_cons, List.drop_zero]
    repeat (first | go_big_quiet_step (first | (go_at_call 69; exact Calls.later_of (hE _))) | quiet_step (first | (go_at_call 69; exact Calls.later_of (hE _))))
    refine wpQuiet_nil ?_
    intro w1 hb1
    replace hb1 := below_of_later hb1
    replace hB := below2 hB hb1
    clear hb1 q
    go_wp2
    go_loopw [5] (fun t5 wr => ∃ k : Nat, 1 ≤ k ∧ k ≤ 2 ∧ t5 = .int .u64 k ∧ Below w.heap.size w wr) (fun t5 _ => 10 - (intOf t5).toNat)
    case atStart => exact ⟨1, by omega, by omega, rfl, hB⟩
    case round =>
      obtain ⟨k, k1, hk, rfl, G⟩ := hrel
      clear hB
      by_cases hlt : k < 2
      · rcases (show k = 1 ∨ k = 2 ∨ k = 3 by omega) with rfl | rfl | rfl
        all_goals first
          | (exfalso; omega)
          | (go_wp2
             go_roundw
             case rel => first | exact ⟨2, by omega, by omega, rfl, G⟩ | exact ⟨3, by omega, by omega, rfl, G⟩ | exact ⟨4, by omega, by omega, rfl, G⟩
             case measure => simp [intOf])
      · obtain rfl : k = 2 := by omega
        go_wp2_with fail
        refine (mul64_q 2 16 _ (by omega) (by omega) (by omega) (by omega)).mono ?_
        rintro ew2 w2 ⟨rfl, hb2⟩
        replace G := below2 G hb2
        have ka := add64_0 32 1 (by omega) (by omega)
        have h1 : ((0 : Int) * 18446744073709551616 + 33) / 3 = 11 := by decide
        have h2 : ((0 : Int) * 18446744073709551616 + 33) % 3 = 0 := by decide
        have hD : ∀ W : World, _ := fun W => div64_int 0 33 3 W (by omega) (by omega) (by omega) (by omega) (by omega)
        rw [h1, h2] at hD
        clear h1 h2
        go_wp2_with fail
        refine (hD _).mono ?_
        rintro ew3 w3 ⟨rfl, hb3⟩
        replace G := below2 G hb3
        go_wp2
        go_ret
        exact ⟨rfl, G⟩
  · have hd : droot 97 = 77 := by decide
    rw [hd]
    have hE : ∀ W : World, Calls Try.prog 69 #[.agg #[.int .u64 97]] W fun e w' => e = .returned (.int .u64 5) ∧ Below W.heap.size W w' := fun W => Exponent_any 97 W
    clear hd hv
    go_enter Try.func73, Try.ntmps73
    go_wp2_with fail
    refine name_world fun W hW => ?_
    have hB : Below w.heap.size w W := by rw [hW]; exact (Below.refl _ _).alloc (Nat.le_refl _) _
    have q := cell_later' (show W.cell? ⟨w.heap.size, 0, none⟩ = some (.int .u64 97) by rw [hW]; simp [go_sem])
    clear hW
    refine Rel.wp_region_later_tail 6 Try.mixed (by kernel_rfl) ?_
    simp only [List.take_succ_cons, List.take_zero, List.drop_succ_cons, List.drop_zero]
    repeat (first | go_big_quiet_step (first | (go_at_call 69; exact Calls.later_of (hE _))) | quiet_step (first | (go_at_call 69; exact Calls.later_of (hE _))))
    refine wpQuiet_nil ?_
    intro w1 hb1
    replace hb1 := below_of_later hb1
    replace hB := below2 hB hb1
    clear hb1 q
    go_wp2
    go_loopw [5] (fun t5 wr => ∃ k : Nat, 1 ≤ k ∧ k ≤ 4 ∧ t5 = .int .u64 k ∧ Below w.heap.size w wr) (fun t5 _ => 10 - (intOf t5).toNat)
    case atStart => exact ⟨1, by omega, by omega, rfl, hB⟩
    case round =>
      obtain ⟨k, k1, hk, rfl, G⟩ := hrel
      clear hB
      by_cases hlt : k < 4
      · rcases (show k = 1 ∨ k = 2 ∨ k = 3 by omega) with rfl | rfl | rfl
        all_goals first
          | (exfalso; omega)
          | (go_wp2
             go_roundw
             case rel => first | exact ⟨2, by omega, by omega, rfl, G⟩ | exact ⟨3, by omega, by omega, rfl, G⟩ | exact ⟨4, by omega, by omega, rfl, G⟩
             case measure => simp [intOf])
      · obtain rfl : k = 4 := by omega
        go_wp2_with fail
        refine (mul64_q 4 96 _ (by omega) (by omega) (by omega) (by omega)).mono ?_
        rintro ew2 w2 ⟨rfl, hb2⟩
        replace G := below2 G hb2
        have ka := add64_0 384 1 (by omega) (by omega)
        have h1 : ((0 : Int) * 18446744073709551616 + 385) / 5 = 77 := by decide
        have h2 : ((0 : Int) * 18446744073709551616 + 385) % 5 = 0 := by decide
        have hD : ∀ W : World, _ := fun W => div64_int 0 385 5 W (by omega) (by omega) (by omega) (by omega) (by omega)
        rw [h1, h2] at hD
        clear h1 h2
        go_wp2_with fail
        refine (hD _).mono ?_
        rintro ew3 w3 ⟨rfl, hb3⟩
        replace G := below2 G hb3
        go_wp2
        go_ret
        exact ⟨rfl, G⟩
  · have hd : droot 193 = 77 := by decide
    rw [hd]
    have hE : ∀ W : World, Calls Try.prog 69 #[.agg #[.int .u64 193]] W fun e w' => e = .returned (.int .u64 5) ∧ Below W.heap.size W w' := fun W => Exponent_any 193 W
    clear hd hv
    go_enter Try.func73, Try.ntmps73
    go_wp2_with fail
    refine name_world fun W hW => ?_
    have hB : Below w.heap.size w W := by rw [hW]; exact (Below.refl _ _).alloc (Nat.le_refl _) _
    have q := cell_later' (show W.cell? ⟨w.heap.size, 0, none⟩ = some (.int .u64 193) by rw [hW]; simp [go_sem])
    clear hW
    refine Rel.wp_region_later_tail 6 Try.mixed (by kernel_rfl) ?_
    simp only [List.take_succ_cons, List.take_zero, List.drop_succ_cons, List.drop_zero]
    repeat (first | go_big_quiet_step (first | (go_at_call 69; exact Calls.later_of (hE _))) | quiet_step (first | (go_at_call 69; exact Calls.later_of (hE _))))
    refine wpQuiet_nil ?_
    intro w1 hb1
    replace hb1 := below_of_later hb1
    replace hB := below2 hB hb1
    clear hb1 q
    go_wp2
    go_loopw [5] (fun t5 wr => ∃ k : Nat, 1 ≤ k ∧ k ≤ 2 ∧ t5 = .int .u64 k ∧ Below w.heap.size w wr) (fun t5 _ => 10 - (intOf t5).toNat)
    case atStart => exact ⟨1, by omega, by omega, rfl, hB⟩
    case round =>
      obtain ⟨k, k1, hk, rfl, G⟩ := hrel
      clear hB
      by_cases hlt : k < 2
      · rcases (show k = 1 ∨ k = 2 ∨ k = 3 by omega) with rfl | rfl | rfl
        all_goals first
          | (exfalso; omega)
          | (go_wp2
             go_roundw
             case rel => first | exact ⟨2, by omega, by omega, rfl, G⟩ | exact ⟨3, by omega, by omega, rfl, G⟩ | exact ⟨4, by omega, by omega, rfl, G⟩
             case measure => simp [intOf])
      · obtain rfl : k = 2 := by omega
        go_wp2_with fail
        refine (mul64_q 2 192 _ (by omega) (by omega) (by omega) (by omega)).mono ?_
        rintro ew2 w2 ⟨rfl, hb2⟩
        replace G := below2 G hb2
        have ka := add64_0 384 1 (by omega) (by omega)
        have h1 : ((0 : Int) * 18446744073709551616 + 385) / 5 = 77 := by decide
        have h2 : ((0 : Int) * 18446744073709551616 + 385) % 5 = 0 := by decide
        have hD : ∀ W : World, _ := fun W => div64_int 0 385 5 W (by omega) (by omega) (by omega) (by omega) (by omega)
        rw [h1, h2] at hD
        clear h1 h2
        go_wp2_with fail
        refine (hD _).mono ?_
        rintro ew3 w3 ⟨rfl, hb3⟩
        replace G := below2 G hb3
        go_wp2
        go_ret
        exact ⟨rfl, G⟩
  · have hd : droot 257 = 171 := by decide
    rw [hd]
    have hE : ∀ W : World, Calls Try.prog 69 #[.agg #[.int .u64 257]] W fun e w' => e = .returned (.int .u64 3) ∧ Below W.heap.size W w' := fun W => Exponent_any 257 W
    clear hd hv
    go_enter Try.func73, Try.ntmps73
    go_wp2_with fail
    refine name_world fun W hW => ?_
    have hB : Below w.heap.size w W := by rw [hW]; exact (Below.refl _ _).alloc (Nat.le_refl _) _
    have q := cell_later' (show W.cell? ⟨w.heap.size, 0, none⟩ = some (.int .u64 257) by rw [hW]; simp [go_sem])
    clear hW
    refine Rel.wp_region_later_tail 6 Try.mixed (by kernel_rfl) ?_
    simp only [List.take_succ_cons, List.take_zero, List.drop_succ_cons, List.drop_zero]
    repeat (first | go_big_quiet_step (first | (go_at_call 69; exact Calls.later_of (hE _))) | quiet_step (first | (go_at_call 69; exact Calls.later_of (hE _))))
    refine wpQuiet_nil ?_
    intro w1 hb1
    replace hb1 := below_of_later hb1
    replace hB := below2 hB hb1
    clear hb1 q
    go_wp2
    go_loopw [5] (fun t5 wr => ∃ k : Nat, 1 ≤ k ∧ k ≤ 2 ∧ t5 = .int .u64 k ∧ Below w.heap.size w wr) (fun t5 _ => 10 - (intOf t5).toNat)
    case atStart => exact ⟨1, by omega, by omega, rfl, hB⟩
    case round =>
      obtain ⟨k, k1, hk, rfl, G⟩ := hrel
      clear hB
      by_cases hlt : k < 2
      · rcases (show k = 1 ∨ k = 2 ∨ k = 3 by omega) with rfl | rfl | rfl
        all_goals first
          | (exfalso; omega)
          | (go_wp2
             go_roundw
             case rel => first | exact ⟨2, by omega, by omega, rfl, G⟩ | exact ⟨3, by omega, by omega, rfl, G⟩ | exact ⟨4, by omega, by omega, rfl, G⟩
             case measure => simp [intOf])
      · obtain rfl : k = 2 := by omega
        go_wp2_with fail
        refine (mul64_q 2 256 _ (by omega) (by omega) (by omega) (by omega)).mono ?_
        rintro ew2 w2 ⟨rfl, hb2⟩
        replace G := below2 G hb2
        have ka := add64_0 512 1 (by omega) (by omega)
        have h1 : ((0 : Int) * 18446744073709551616 + 513) / 3 = 171 := by decide
        have h2 : ((0 : Int) * 18446744073709551616 + 513) % 3 = 0 := by decide
        have hD : ∀ W : World, _ := fun W => div64_int 0 513 3 W (by omega) (by omega) (by omega) (by omega) (by omega)
        rw [h1, h2] at hD
        clear h1 h2
        go_wp2_with fail
        refine (hD _).mono ?_
        rintro ew3 w3 ⟨rfl, hb3⟩
        replace G := below2 G hb3
        go_wp2
        go_ret
        exact ⟨rfl, G⟩
  · have hd : droot 12289 = 7373 := by decide
    rw [hd]
    have hE : ∀ W : World, Calls Try.prog 69 #[.agg #[.int .u64 12289]] W fun e w' => e = .returned (.int .u64 5) ∧ Below W.heap.size W w' := fun W => Exponent_any 12289 W
    clear hd hv
    go_enter Try.func73, Try.ntmps73
    go_wp2_with fail
    refine name_world fun W hW => ?_
    have hB : Below w.heap.size w W := by rw [hW]; exact (Below.refl _ _).alloc (Nat.le_refl _) _
    have q := cell_later' (show W.cell? ⟨w.heap.size, 0, none⟩ = some (.int .u64 12289) by rw [hW]; simp [go_sem])
    clear hW
    refine Rel.wp_region_later_tail 6 Try.mixed (by kernel_rfl) ?_
    simp only [List.take_succ_cons, List.take_zero, List.drop_succ_cons, List.drop_zero]
    repeat (first | go_big_quiet_step (first | (go_at_call 69; exact Calls.later_of (hE _))) | quiet_step (first | (go_at_call 69; exact Calls.later_of (hE _))))
    refine wpQuiet_nil ?_
    intro w1 hb1
    replace hb1 := below_of_later hb1
    replace hB := below2 hB hb1
    clear hb1 q
    go_wp2
    go_loopw [5] (fun t5 wr => ∃ k : Nat, 1 ≤ k ∧ k ≤ 3 ∧ t5 = .int .u64 k ∧ Below w.heap.size w wr) (fun t5 _ => 10 - (intOf t5).toNat)
    case atStart => exact ⟨1, by omega, by omega, rfl, hB⟩
    case round =>
      obtain ⟨k, k1, hk, rfl, G⟩ := hrel
      clear hB
      by_cases hlt : k < 3
      · rcases (show k = 1 ∨ k = 2 ∨ k = 3 by omega) with rfl | rfl | rfl
        all_goals first
          | (exfalso; omega)
          | (go_wp2
             go_roundw
             case rel => first | exact ⟨2, by omega, by omega, rfl, G⟩ | exact ⟨3, by omega, by omega, rfl, G⟩ | exact ⟨4, by omega, by omega, rfl, G⟩
             case measure => simp [intOf])
      · obtain rfl : k = 3 := by omega
        go_wp2_with fail
        refine (mul64_q 3 12288 _ (by omega) (by omega) (by omega) (by omega)).mono ?_
        rintro ew2 w2 ⟨rfl, hb2⟩
        replace G := below2 G hb2
        have ka := add64_0 36864 1 (by omega) (by omega)
        have h1 : ((0 : Int) * 18446744073709551616 + 36865) / 5 = 7373 := by decide
        have h2 : ((0 : Int) * 18446744073709551616 + 36865) % 5 = 0 := by decide
        have hD : ∀ W : World, _ := fun W => div64_int 0 36865 5 W (by omega) (by omega) (by omega) (by omega) (by omega)
        rw [h1, h2] at hD
        clear h1 h2
        go_wp2_with fail
        refine (hD _).mono ?_
        rintro ew3 w3 ⟨rfl, hb3⟩
        replace G := below2 G hb3
        go_wp2
        go_ret
        exact ⟨rfl, G⟩
  · have hd : droot 65537 = 43691 := by decide
    rw [hd]
    have hE : ∀ W : World, Calls Try.prog 69 #[.agg #[.int .u64 65537]] W fun e w' => e = .returned (.int .u64 3) ∧ Below W.heap.size W w' := fun W => Exponent_any 65537 W
    clear hd hv
    go_enter Try.func73, Try.ntmps73
    go_wp2_with fail
    refine name_world fun W hW => ?_
    have hB : Below w.heap.size w W := by rw [hW]; exact (Below.refl _ _).alloc (Nat.le_refl _) _
    have q := cell_later' (show W.cell? ⟨w.heap.size, 0, none⟩ = some (.int .u64 65537) by rw [hW]; simp [go_sem])
    clear hW
    refine Rel.wp_region_later_tail 6 Try.mixed (by kernel_rfl) ?_
    simp only [List.take_succ_cons, List.take_zero, List.drop_succ_cons, List.drop_zero]
    repeat (first | go_big_quiet_step (first | (go_at_call 69; exact Calls.later_of (hE _))) | quiet_step (first | (go_at_call 69; exact Calls.later_of (hE _))))
    refine wpQuiet_nil ?_
    intro w1 hb1
    replace hb1 := below_of_later hb1
    replace hB := below2 hB hb1
    clear hb1 q
    go_wp2
    go_loopw [5] (fun t5 wr => ∃ k : Nat, 1 ≤ k ∧ k ≤ 2 ∧ t5 = .int .u64 k ∧ Below w.heap.size w wr) (fun t5 _ => 10 - (intOf t5).toNat)
    case atStart => exact ⟨1, by omega, by omega, rfl, hB⟩
    case round =>
      obtain ⟨k, k1, hk, rfl, G⟩ := hrel
      clear hB
      by_cases hlt : k < 2
      · rcases (show k = 1 ∨ k = 2 ∨ k = 3 by omega) with rfl | rfl | rfl
        all_goals first
          | (exfalso; omega)
          | (go_wp2
             go_roundw
             case rel => first | exact ⟨2, by omega, by omega, rfl, G⟩ | exact ⟨3, by omega, by omega, rfl, G⟩ | exact ⟨4, by omega, by omega, rfl, G⟩
             case measure => simp [intOf])
      · obtain rfl : k = 2 := by omega
        go_wp2_with fail
        refine (mul64_q 2 65536 _ (by omega) (by omega) (by omega) (by omega)).mono ?_
        rintro ew2 w2 ⟨rfl, hb2⟩
        replace G := below2 G hb2
        have ka := add64_0 131072 1 (by omega) (by omega)
        have h1 : ((0 : Int) * 18446744073709551616 + 131073) / 3 = 43691 := by decide
        have h2 : ((0 : Int) * 18446744073709551616 + 131073) % 3 = 0 := by decide
        have hD : ∀ W : World, _ := fun W => div64_int 0 131073 3 W (by omega) (by omega) (by omega) (by omega) (by omega)
        rw [h1, h2] at hD
        clear h1 h2
        go_wp2_with fail
        refine (hD _).mono ?_
        rintro ew3 w3 ⟨rfl, hb3⟩
        replace G := below2 G hb3
        go_wp2
        go_ret
        exact ⟨rfl, G⟩

end Go.Proofs.Ytaklpdhhcnnclaa
