/- The contracts of mixing in the reference, and of unmixing. -/
import Derived.Test.YtaklpdhhcnnclaaPerm
namespace Go.Proofs.Ytaklpdhhcnnclaa
open Go.RowKit

theorem FillAt.next {w wr w2 : World} {b0 b1 bo : Nat} {s m : T3} {k : Nat} (H : FillAt w wr b0 b1 bo s m k) (hb : Below wr.heap.size wr w2) (v : Value) (he : (outA m k).setIfInBounds k v = outA m (k + 1)) :
    FillAt w (w2.setCell ⟨bo, k, none⟩ v) b0 b1 bo s m (k + 1) :=
  ⟨(H.src.mono hb).other H.d0 _ _, (H.res.mono hb).other H.d1 _ _, by have := (H.out.mono hb).set k v; rwa [he] at this,
    (H.b.trans (hb.mono H.b.size)).setCell (by exact H.no) _, H.n0, H.n1, H.no, H.d0, H.d1⟩

/-- The end: the array that has been filled is copied into the result. -/
theorem FillAt.end_ {w wr : World} {b0 b1 bo : Nat} {s m : T3} (H : FillAt w wr b0 b1 bo s m 3) (x y z : Value) :
    Below w.heap.size w (((wr.setCell ⟨b1, 0, none⟩ x).setCell ⟨b1, 1, none⟩ y).setCell ⟨b1, 2, none⟩ z) :=
  ((H.b.setCell (by exact H.n1) _).setCell (by exact H.n1) _).setCell (by exact H.n1) _

set_option maxHeartbeats 1000000 in
theorem rMix_any (p : Int) (s : T3) (w : World) (hs : W3 s) :
    Calls Try.prog 29 #[.int .u64 p, .agg #[.int .u64 s.a, .int .u64 s.b, .int .u64 s.c]] w fun e w' => e = .returned (.agg #[.int .u64 (mix p s).a, .int .u64 (mix p s).b, .int .u64 (mix p s).c]) ∧ Below w.heap.size w w' := by
  obtain ⟨⟨a0, a1⟩, ⟨b0, b1⟩, c0, c1⟩ := hs
  have s1 : 0 ≤ sum3 p s ∧ sum3 p s < 18446744073709551616 := fadd_bd _ _ _
  have hsum := fsum3 p s
  go_enter Try.func29, Try.ntmps29
  go_wp2_with fail
  refine name_calls fun W hW => ?_
  have g0 : Blk W w.heap.size (A3 s) 26 := by rw [hW]; exact ((Blk.newAt rfl).alloc _).alloc _
  have g1 : Blk W (w.heap.size + 1) (A3 ⟨0, 0, 0⟩) 26 := by rw [hW]; exact (Blk.newAt (by simp)).alloc _
  have g2 : Blk W (w.heap.size + 2) #[.int .u64 s.a, .int .u64 s.b, .int .u64 s.c] 22 := by rw [hW]; exact Blk.newAt (by simp)
  have hB : Below w.heap.size w W := by rw [hW]; exact (((Below.refl _ _).alloc (Nat.le_refl _) _).alloc (by simp) _).alloc (by simp; omega) _
  clear hW
  refine (rSum_any p (some ⟨w.heap.size + 2, 0, none⟩) 3 [s.a, s.b, s.c] _ (sl3 g2) (by intro x hx; simp at hx; omega) (by simp)).mono ?_
  rintro e w1 ⟨rfl, hb1⟩
  rw [hsum]
  replace hB := below2 hB hb1
  replace g0 := g0.mono hb1
  replace g1 := g1.mono hb1
  clear g2 hb1 hsum
  have l0 := g0.lt; have l1 := g1.lt
  have F0 : FillAt w (w1.alloc (.cells #[.int .u64 0, .int .u64 0, .int .u64 0] 26)) w.heap.size (w.heap.size + 1) w1.heap.size s (mix p s) 0 :=
    ⟨g0.alloc _, g1.alloc _, Blk.new _ _ _, hB.alloc (by omega) _, by omega, by omega, by omega, by omega, by omega⟩
  clear g0 g1 hB
  go_wp2
  go_loopw [7] (fun t7 wr => ∃ k : Nat, k ≤ 3 ∧ t7 = .int .i64 k ∧ FillAt w wr w.heap.size (w.heap.size + 1) w1.heap.size s (mix p s) k) (fun t7 _ => 3 - (intOf t7).toNat)
  case atStart => exact ⟨0, by omega, rfl, F0⟩
  case round =>
    obtain ⟨k, hk, rfl, H⟩ := hrel
    by_cases hlt : k < 3
    · have q0 := H.src.cell (j := 0) (v := .int .u64 s.a) rfl
      have q1 := H.src.cell (j := 1) (v := .int .u64 s.b) rfl
      have q2 := H.src.cell (j := 2) (v := .int .u64 s.c) rfl
      obtain rfl | rfl | rfl : k = 0 ∨ k = 1 ∨ k = 2 := by omega
      · go_wp2_with fail
        refine (rAdd_any p s.a (sum3 p s) _ a0 a1 s1.1 s1.2).mono ?_
        rintro e w2 ⟨rfl, hb2⟩
        have y := (H.out.mono hb2).cell (j := 0) (v := .int .u64 0) rfl
        have f := (H.out.mono hb2).free 0
        go_wp2
        go_roundw
        case rel => exact ⟨1, by omega, rfl, H.next hb2 _ rfl⟩
        case measure => simp [intOf]
      · go_wp2_with fail
        refine (rAdd_any p s.b (sum3 p s) _ b0 b1 s1.1 s1.2).mono ?_
        rintro e w2 ⟨rfl, hb2⟩
        have y := (H.out.mono hb2).cell (j := 1) (v := .int .u64 0) rfl
        have f := (H.out.mono hb2).free 1
        go_wp2
        go_roundw
        case rel => exact ⟨2, by omega, rfl, H.next hb2 _ rfl⟩
        case measure => simp [intOf]
      · go_wp2_with fail
        refine (rAdd_any p s.c (sum3 p s) _ c0 c1 s1.1 s1.2).mono ?_
        rintro e w2 ⟨rfl, hb2⟩
        have y := (H.out.mono hb2).cell (j := 2) (v := .int .u64 0) rfl
        have f := (H.out.mono hb2).free 2
        go_wp2
        go_roundw
        case rel => exact ⟨3, by omega, rfl, H.next hb2 _ rfl⟩
        case measure => simp [intOf]
    · obtain rfl : k = 3 := by omega
      have m0 := H.out.cell (j := 0) (v := .int .u64 (mix p s).a) rfl
      have m1 := H.out.cell (j := 1) (v := .int .u64 (mix p s).b) rfl
      have m2 := H.out.cell (j := 2) (v := .int .u64 (mix p s).c) rfl
      have y0 := H.res.cell (j := 0) (v := .int .u64 0) rfl
      have y1 := H.res.cell (j := 1) (v := .int .u64 0) rfl
      have y2 := H.res.cell (j := 2) (v := .int .u64 0) rfl
      have f := H.res.free
      go_wp2
      exact bodyPost_ret (v := .agg #[.int .u64 (mix p s).a, .int .u64 (mix p s).b, .int .u64 (mix p s).c]) (by simp [results, Try.results29, go_sem, y0, y1, y2]) rfl ⟨rfl, H.end_ _ _ _⟩

set_option maxHeartbeats 1000000 in
theorem rUnmix_any (p : Int) (s : T3) (w : World) (hs : W3 s) :
    Calls Try.prog 32 #[.int .u64 p, .agg #[.int .u64 s.a, .int .u64 s.b, .int .u64 s.c]] w fun e w' => e = .returned (.agg #[.int .u64 (unmix p s).a, .int .u64 (unmix p s).b, .int .u64 (unmix p s).c]) ∧ Below w.heap.size w w' := by
  obtain ⟨⟨a0, a1⟩, ⟨b0, b1⟩, c0, c1⟩ := hs
  have s0 : 0 ≤ sum3 p s ∧ sum3 p s < 18446744073709551616 := fadd_bd _ _ _
  have s4 := finv_bd p 4
  have s1 := fmul_bd p (sum3 p s) (finv p 4)
  have hd : fmul p (sum3 p s) (finv p 4) = fdiv p (sum3 p s) 4 := rfl
  rw [hd] at s1
  have hsum := fsum3 p s
  go_enter Try.func32, Try.ntmps32
  go_wp2_with fail
  refine name_calls fun W hW => ?_
  have g0 : Blk W w.heap.size (A3 s) 26 := by rw [hW]; exact ((Blk.newAt rfl).alloc _).alloc _
  have g1 : Blk W (w.heap.size + 1) (A3 ⟨0, 0, 0⟩) 26 := by rw [hW]; exact (Blk.newAt (by simp)).alloc _
  have g2 : Blk W (w.heap.size + 2) #[.int .u64 s.a, .int .u64 s.b, .int .u64 s.c] 22 := by rw [hW]; exact Blk.newAt (by simp)
  have hB : Below w.heap.size w W := by rw [hW]; exact (((Below.refl _ _).alloc (Nat.le_refl _) _).alloc (by simp) _).alloc (by simp; omega) _
  clear hW
  refine (rSum_any p (some ⟨w.heap.size + 2, 0, none⟩) 3 [s.a, s.b, s.c] _ (sl3 g2) (by intro x hx; simp at hx; omega) (by simp)).mono ?_
  rintro e w1 ⟨rfl, hb1⟩
  rw [hsum]
  replace hB := below2 hB hb1
  replace g0 := g0.mono hb1
  replace g1 := g1.mono hb1
  clear g2 hb1 hsum
  go_wp2_with fail
  refine (rInv_any p 4 _ (by omega) (by omega)).mono ?_
  rintro e w1' ⟨rfl, hb1⟩
  replace hB := below2 hB hb1
  replace g0 := g0.mono hb1
  replace g1 := g1.mono hb1
  clear hb1
  go_wp2_with fail
  refine (rMul_any p _ _ _ s0.1 s0.2 s4.1 s4.2).mono ?_
  rintro e w1'' ⟨rfl, hb1⟩
  rw [hd]
  replace hB := below2 hB hb1
  replace g0 := g0.mono hb1
  replace g1 := g1.mono hb1
  clear hb1 hd s0 s4
  have l0 := g0.lt; have l1 := g1.lt
  have F0 : FillAt w (w1''.alloc (.cells #[.int .u64 0, .int .u64 0, .int .u64 0] 26)) w.heap.size (w.heap.size + 1) w1''.heap.size s (unmix p s) 0 :=
    ⟨g0.alloc _, g1.alloc _, Blk.new _ _ _, hB.alloc (by omega) _, by omega, by omega, by omega, by omega, by omega⟩
  clear g0 g1 hB
  go_wp2
  go_loopw [7] (fun t7 wr => ∃ k : Nat, k ≤ 3 ∧ t7 = .int .i64 k ∧ FillAt w wr w.heap.size (w.heap.size + 1) w1''.heap.size s (unmix p s) k) (fun t7 _ => 3 - (intOf t7).toNat)
  case atStart => exact ⟨0, by omega, rfl, F0⟩
  case round =>
    obtain ⟨k, hk, rfl, H⟩ := hrel
    by_cases hlt : k < 3
    · have q0 := H.src.cell (j := 0) (v := .int .u64 s.a) rfl
      have q1 := H.src.cell (j := 1) (v := .int .u64 s.b) rfl
      have q2 := H.src.cell (j := 2) (v := .int .u64 s.c) rfl
      obtain rfl | rfl | rfl : k = 0 ∨ k = 1 ∨ k = 2 := by omega
      · go_wp2_with fail
        refine (rSub_any p s.a (fdiv p (sum3 p s) 4) _ a0 a1 s1.1 s1.2).mono ?_
        rintro e w2 ⟨rfl, hb2⟩
        have y := (H.out.mono hb2).cell (j := 0) (v := .int .u64 0) rfl
        have f := (H.out.mono hb2).free 0
        go_wp2
        go_roundw
        case rel => exact ⟨1, by omega, rfl, H.next hb2 _ rfl⟩
        case measure => simp [intOf]
      · go_wp2_with fail
        refine (rSub_any p s.b (fdiv p (sum3 p s) 4) _ b0 b1 s1.1 s1.2).mono ?_
        rintro e w2 ⟨rfl, hb2⟩
        have y := (H.out.mono hb2).cell (j := 1) (v := .int .u64 0) rfl
        have f := (H.out.mono hb2).free 1
        go_wp2
        go_roundw
        case rel => exact ⟨2, by omega, rfl, H.next hb2 _ rfl⟩
        case measure => simp [intOf]
      · go_wp2_with fail
        refine (rSub_any p s.c (fdiv p (sum3 p s) 4) _ c0 c1 s1.1 s1.2).mono ?_
        rintro e w2 ⟨rfl, hb2⟩
        have y := (H.out.mono hb2).cell (j := 2) (v := .int .u64 0) rfl
        have f := (H.out.mono hb2).free 2
        go_wp2
        go_roundw
        case rel => exact ⟨3, by omega, rfl, H.next hb2 _ rfl⟩
        case measure => simp [intOf]
    · obtain rfl : k = 3 := by omega
      have m0 := H.out.cell (j := 0) (v := .int .u64 (unmix p s).a) rfl
      have m1 := H.out.cell (j := 1) (v := .int .u64 (unmix p s).b) rfl
      have m2 := H.out.cell (j := 2) (v := .int .u64 (unmix p s).c) rfl
      have y0 := H.res.cell (j := 0) (v := .int .u64 0) rfl
      have y1 := H.res.cell (j := 1) (v := .int .u64 0) rfl
      have y2 := H.res.cell (j := 2) (v := .int .u64 0) rfl
      have f := H.res.free
      go_wp2
      exact bodyPost_ret (v := .agg #[.int .u64 (unmix p s).a, .int .u64 (unmix p s).b, .int .u64 (unmix p s).c]) (by simp [results, Try.results32, go_sem, y0, y1, y2]) rfl ⟨rfl, H.end_ _ _ _⟩

set_option maxHeartbeats 400000 in
theorem Unmix_any (p : Int) (s : T3) (w : World) (hs : W3 s) :
    Calls Try.prog 31 #[.int .u64 p, .agg #[.int .u64 s.a, .int .u64 s.b, .int .u64 s.c]] w fun e w' => e = .returned (.agg #[.int .u64 (unmix p s).a, .int .u64 (unmix p s).b, .int .u64 (unmix p s).c]) ∧ Below w.heap.size w w' := by
  obtain ⟨⟨a0, a1⟩, ⟨b0, b1⟩, c0, c1⟩ := hs
  have s0 := fadd_bd p s.a s.b
  have s1 := fadd_bd p (fadd p s.a s.b) s.c
  have s2 := fdiv_bd p (fadd p (fadd p s.a s.b) s.c) 4
  go_enter Try.func31, Try.ntmps31
  go_wp2
  refine name_world fun W hW => ?_
  have hz : W.heap.size = w.heap.size + 3 := by rw [hW]; simp
  have hB : Below w.heap.size w W := by rw [hW]; exact (((Below.refl _ _).alloc (Nat.le_refl _) _).alloc (by simp) _).alloc (by simp; omega) _
  have q0 : W.cell? ⟨w.heap.size, 0, none⟩ = some (.int .u64 s.a) := by rw [hW]; simp [go_sem]
  have q1 : W.cell? ⟨w.heap.size, 1, none⟩ = some (.int .u64 s.b) := by rw [hW]; simp [go_sem]
  have q2 : W.cell? ⟨w.heap.size, 2, none⟩ = some (.int .u64 s.c) := by rw [hW]; simp [go_sem]
  have q3 : W.cell? ⟨w.heap.size + 2, 0, none⟩ = some (.int .u64 p) := by rw [hW]; simp [go_sem]
  have y : Blk W (w.heap.size + 1) #[.int .u64 0, .int .u64 0, .int .u64 0] 26 := by rw [hW]; exact Blk.alloc (Blk.newAt (by simp)) _
  clear hW
  have k0 := cell_later' q0; have k1 := cell_later' q1; have k2 := cell_later' q2; have k3 := cell_later' q3
  refine wp_region_later Try.mixed (by kernel_rfl) ?_
  repeat (first | go_big_quiet_step (first | (go_at_call 60; exact Calls.later_of (Add_any _ _ _ _ (by omega) (by omega) (by omega) (by omega))) | (go_at_call 63; exact Calls.later_of (Div_any _ _ _ _ (by omega) (by omega) (by omega) (by omega)))) | quiet_step (first | (go_at_call 60; exact Calls.later_of (Add_any _ _ _ _ (by omega) (by omega) (by omega) (by omega))) | (go_at_call 63; exact Calls.later_of (Div_any _ _ _ _ (by omega) (by omega) (by omega) (by omega)))))
  refine wpQuiet_nil ?_
  intro w1 hb1
  replace hb1 := below_of_later hb1
  clear k0 k1 k2 k3
  have z := hb1.size
  have k0 := cell_later' (cell_below hb1 q0); have k1 := cell_later' (cell_below hb1 q1); have k2 := cell_later' (cell_below hb1 q2); have k3 := cell_later' (cell_below hb1 q3)
  have hn : fdiv p (fadd p (fadd p s.a s.b) s.c) 4 = fdiv p (sum3 p s) 4 := rfl
  go_wp2_with fail
  refine Rel.wp_region_later_tail 16 Try.mixed (by kernel_rfl) ?_
  simp only [List.take_succ_cons, List.take_zero, List.drop_succ_cons, List.drop_zero]
  repeat (first | go_big_quiet_step (first | (go_at_call 64; exact Calls.later_of (Sub_any _ _ _ _ (by omega) (by omega) (by omega) (by omega)))) | quiet_step (first | (go_at_call 64; exact Calls.later_of (Sub_any _ _ _ _ (by omega) (by omega) (by omega) (by omega)))))
  refine wpQuiet_nil ?_
  intro w2 hb2
  replace hb2 := below_of_later hb2
  have y2 := (y.mono hb1).mono hb2
  have z2 := hb2.size
  have r0 := y2.cell (j := 0) rfl; have r1 := y2.cell (j := 1) rfl; have r2 := y2.cell (j := 2) rfl
  have f := y2.free
  go_wp2
  refine bodyPost_ret (v := .agg #[.int .u64 (unmix p s).a, .int .u64 (unmix p s).b, .int .u64 (unmix p s).c]) (by simp [results, Try.results31, go_sem, r0, r1, r2, unmix]) rfl ⟨rfl, ?_⟩
  exact (((below2 hB (below2 hb1 hb2)).setCell (by simp) _).setCell (by simp) _).setCell (by simp) _

end Go.Proofs.Ytaklpdhhcnnclaa
