/- The walk of the reference's permutation. -/
import Derived.Test.YthkdaoomnfgooaaPermute
namespace Go.Proofs.Ythkdaoomnfgooaa
open Go.RowKit

set_option maxRecDepth 10000 in
set_option maxHeartbeats 4000000 in
theorem rPermute_any (p : Int) (s : T3) (w : World) (hs : W3 s) :
    Calls Try.prog 79 #[.int .u64 p, .agg #[.int .u64 s.a, .int .u64 s.b, .int .u64 s.c]] w fun e w' => e = .returned (.agg #[.int .u64 (permute p s).a, .int .u64 (permute p s).b, .int .u64 (permute p s).c]) ∧ Below w.heap.size w w' := by
  obtain ⟨R, hR⟩ : ∃ R, R = permute p s := ⟨_, rfl⟩
  rw [← hR]
  by_cases hv : vld p = true
  · replace hR : R = permN p 8 s := by rw [hR, permute, if_pos hv]
    replace hR := hide hR
    go_enter Try.func79, Try.ntmps79
    go_wp2_with fail
    refine name_calls fun W hW => ?_
    have H : PS false p w W s := by
      rw [hW]
      exact ⟨(Blk.newAt rfl).alloc _, Blk.newAt (by simp), fun h => (by cases h), ((Below.refl _ _).alloc (Nat.le_refl _) _).alloc (by simp) _⟩
    clear hW
    refine (rValid_any p W).mono ?_
    rintro e1 w1 ⟨rfl, hb1⟩
    replace H := H.mono hb1
    clear hb1
    rw [hv]
    have E := fexp_bd p
    obtain ⟨ex, hex⟩ : ∃ ex, ex = fexp p := ⟨_, rfl⟩
    have hE : ∀ W : World, Calls Try.prog 92 #[.int .u64 p] W fun e w' => e = .returned (.int .u64 ex) ∧ Below W.heap.size W w' := fun W => by rw [hex]; exact rExponent_any p W
    rw [← hex] at E
    replace hex := hide hex
    go_wp2_with fail
    go_loopw [5] (fun t5 wr => ∃ r : Int, 0 ≤ r ∧ r ≤ 8 ∧ t5 = .int .i64 r ∧ PS false p w wr (permN p r.toNat s)) (fun t5 _ => 8 - (intOf t5).toNat)
    case atStart => exact ⟨0, by omega, by omega, rfl, H⟩
    case round =>
      obtain ⟨r, r0, r8, rfl, G⟩ := hrel
      clear H
      by_cases hlt : r < 8
      · have hnext := permN_succ p r s r0
        obtain ⟨x, hx⟩ : ∃ x, x = permN p r.toNat s := ⟨_, rfl⟩
        have hxW : W3 x := by rw [hx]; exact permN_W3 _ _ _ hs
        rw [← hx] at G hnext
        obtain ⟨y, hy⟩ : ∃ y, y = sub3 p r x := ⟨_, rfl⟩
        have hyW : W3 y := by rw [hy]; exact sub3_W3 _ _ _
        have ya : fpow p (fadd p x.a (fconst p r 0)) ex = y.a := by rw [hy, hex.out]; rfl
        have yb : fpow p (fadd p x.b (fconst p r 1)) ex = y.b := by rw [hy, hex.out]; rfl
        have yc : fpow p (fadd p x.c (fconst p r 2)) ex = y.c := by rw [hy, hex.out]; rfl
        rw [← hy] at hnext
        replace hnext := hide hnext
        clear hx hy
        have G0 : PS false p w wr (upto 0 x y) := G
        clear G
        go_wp2_with fail
        go_loopw [6] (fun t6 wr2 => ∃ k : Nat, k ≤ 3 ∧ t6 = .int .i64 k ∧ PS false p w wr2 (upto k x y)) (fun t6 _ => 3 - (intOf t6).toNat)
        case atStart => exact ⟨0, by omega, rfl, G0⟩
        case round =>
          obtain ⟨k, hk, rfl, G⟩ := hrel
          clear G0
          obtain ⟨⟨x0, x1⟩, ⟨x2, x3⟩, x4, x5⟩ := hxW
          by_cases hlt3 : k < 3
          · obtain rfl | rfl | rfl : k = 0 ∨ k = 1 ∨ k = 2 := by omega
            · have k0 := cell_later' (G.src.cell (j := 0) (v := .int .u64 x.a) rfl)
              have n1 := fconst_bd p r 0
              have n2 := fadd_bd p x.a (fconst p r 0)
              go_wp2_with fail
              refine Rel.wp_region_later_tail 14 Try.mixed (by kernel_rfl) ?_
              simp only [List.take_succ_cons, List.take_zero, List.drop_succ_cons, List.drop_zero]
              repeat (first | go_big_quiet_step (first | (go_at_call 91; exact Calls.later_of (rConstant_any _ _ _ _)) | (go_at_call 77; exact Calls.later_of (rAdd_any _ _ _ _ (by omega) (by omega) (by omega) (by omega))) | (go_at_call 92; exact Calls.later_of (hE _)) | (go_at_call 90; exact Calls.later_of (rPow_any _ _ _ _ (by omega) (by omega) (by omega) (by omega)))) | quiet_step (first | (go_at_call 91; exact Calls.later_of (rConstant_any _ _ _ _)) | (go_at_call 77; exact Calls.later_of (rAdd_any _ _ _ _ (by omega) (by omega) (by omega) (by omega))) | (go_at_call 92; exact Calls.later_of (hE _)) | (go_at_call 90; exact Calls.later_of (rPow_any _ _ _ _ (by omega) (by omega) (by omega) (by omega)))))
              refine wpQuiet_nil ?_
              intro w3 hb3
              replace hb3 := below_of_later hb3
              replace G := G.mono hb3
              have y' := G.src.cell (j := 0) (v := .int .u64 x.a) rfl
              have f := G.src.free 0
              go_wp2
              go_roundw
              case rel => exact ⟨1, by omega, rfl, G.set 0 _ (by rfl)⟩
              case measure => simp [intOf]

            · have k0 := cell_later' (G.src.cell (j := 1) (v := .int .u64 x.b) rfl)
              have n1 := fconst_bd p r 1
              have n2 := fadd_bd p x.b (fconst p r 1)
              go_wp2_with fail
              refine Rel.wp_region_later_tail 14 Try.mixed (by kernel_rfl) ?_
              simp only [List.take_succ_cons, List.take_zero, List.drop_succ_cons, List.drop_zero]
              repeat (first | go_big_quiet_step (first | (go_at_call 91; exact Calls.later_of (rConstant_any _ _ _ _)) | (go_at_call 77; exact Calls.later_of (rAdd_any _ _ _ _ (by omega) (by omega) (by omega) (by omega))) | (go_at_call 92; exact Calls.later_of (hE _)) | (go_at_call 90; exact Calls.later_of (rPow_any _ _ _ _ (by omega) (by omega) (by omega) (by omega)))) | quiet_step (first | (go_at_call 91; exact Calls.later_of (rConstant_any _ _ _ _)) | (go_at_call 77; exact Calls.later_of (rAdd_any _ _ _ _ (by omega) (by omega) (by omega) (by omega))) | (go_at_call 92; exact Calls.later_of (hE _)) | (go_at_call 90; exact Calls.later_of (rPow_any _ _ _ _ (by omega) (by omega) (by omega) (by omega)))))
              refine wpQuiet_nil ?_
              intro w3 hb3
              replace hb3 := below_of_later hb3
              replace G := G.mono hb3
              have y' := G.src.cell (j := 1) (v := .int .u64 x.b) rfl
              have f := G.src.free 1
              go_wp2
              go_roundw
              case rel => exact ⟨2, by omega, rfl, G.set 1 _ (by rfl)⟩
              case measure => simp [intOf]

            · have k0 := cell_later' (G.src.cell (j := 2) (v := .int .u64 x.c) rfl)
              have n1 := fconst_bd p r 2
              have n2 := fadd_bd p x.c (fconst p r 2)
              go_wp2_with fail
              refine Rel.wp_region_later_tail 14 Try.mixed (by kernel_rfl) ?_
              simp only [List.take_succ_cons, List.take_zero, List.drop_succ_cons, List.drop_zero]
              repeat (first | go_big_quiet_step (first | (go_at_call 91; exact Calls.later_of (rConstant_any _ _ _ _)) | (go_at_call 77; exact Calls.later_of (rAdd_any _ _ _ _ (by omega) (by omega) (by omega) (by omega))) | (go_at_call 92; exact Calls.later_of (hE _)) | (go_at_call 90; exact Calls.later_of (rPow_any _ _ _ _ (by omega) (by omega) (by omega) (by omega)))) | quiet_step (first | (go_at_call 91; exact Calls.later_of (rConstant_any _ _ _ _)) | (go_at_call 77; exact Calls.later_of (rAdd_any _ _ _ _ (by omega) (by omega) (by omega) (by omega))) | (go_at_call 92; exact Calls.later_of (hE _)) | (go_at_call 90; exact Calls.later_of (rPow_any _ _ _ _ (by omega) (by omega) (by omega) (by omega)))))
              refine wpQuiet_nil ?_
              intro w3 hb3
              replace hb3 := below_of_later hb3
              replace G := G.mono hb3
              have y' := G.src.cell (j := 2) (v := .int .u64 x.c) rfl
              have f := G.src.free 2
              go_wp2
              go_roundw
              case rel => exact ⟨3, by omega, rfl, G.set 2 _ (by rfl)⟩
              case measure => simp [intOf]

          · obtain rfl : k = 3 := by omega
            replace G : PS false p w wr y := G
            have m0 := G.src.cell (j := 0) (v := .int .u64 y.a) rfl
            have m1 := G.src.cell (j := 1) (v := .int .u64 y.b) rfl
            have m2 := G.src.cell (j := 2) (v := .int .u64 y.c) rfl
            go_wp2_with fail
            refine (rMix_any p y _ hyW).mono ?_
            rintro e w4 ⟨rfl, hb4⟩
            replace G := G.mono hb4
            have f := G.src.free
            clear m0 m1 m2
            have m0 := G.src.cell (j := 0) (v := .int .u64 y.a) rfl
            have m1 := G.src.cell (j := 1) (v := .int .u64 y.b) rfl
            have m2 := G.src.cell (j := 2) (v := .int .u64 y.c) rfl
            go_wp2
            go_roundw
            case rel => exact ⟨r + 1, by omega, by omega, rfl, by rw [hnext.out]; exact G.set3⟩
            case measure => simp [intOf]; omega
      · obtain rfl : r = 8 := by omega
        have G' : PS false p w wr R := by rw [hR.out]; exact G
        clear G
        have m0 := G'.src.cell (j := 0) (v := .int .u64 R.a) rfl
        have m1 := G'.src.cell (j := 1) (v := .int .u64 R.b) rfl
        have m2 := G'.src.cell (j := 2) (v := .int .u64 R.c) rfl
        have y0 := G'.res.cell (j := 0) (v := .int .u64 0) rfl
        have y1 := G'.res.cell (j := 1) (v := .int .u64 0) rfl
        have y2 := G'.res.cell (j := 2) (v := .int .u64 0) rfl
        have f := G'.res.free
        go_wp2
        exact bodyPost_ret (v := .agg #[.int .u64 R.a, .int .u64 R.b, .int .u64 R.c]) (by simp [results, Try.results79, go_sem, y0, y1, y2]) rfl ⟨rfl, G'.end_ _ _ _⟩
  · have hv := vld_no hv
    replace hR : R = ⟨0, 0, 0⟩ := by rw [hR, permute, hv]; rfl
    subst hR
    go_enter Try.func79, Try.ntmps79
    go_wp2_with fail
    refine name_calls fun W hW => ?_
    have H : PS false p w W s := by
      rw [hW]
      exact ⟨(Blk.newAt rfl).alloc _, Blk.newAt (by simp), fun h => (by cases h), ((Below.refl _ _).alloc (Nat.le_refl _) _).alloc (by simp) _⟩
    clear hW
    refine (rValid_any p W).mono ?_
    rintro e1 w1 ⟨rfl, hb1⟩
    replace H := H.mono hb1
    clear hb1
    rw [hv]
    have y0 := H.res.cell (j := 0) (v := .int .u64 0) rfl
    have y1 := H.res.cell (j := 1) (v := .int .u64 0) rfl
    have y2 := H.res.cell (j := 2) (v := .int .u64 0) rfl
    have f := H.res.free
    go_wp2
    exact bodyPost_ret (v := .agg #[.int .u64 0, .int .u64 0, .int .u64 0]) (by simp [results, Try.results79, go_sem, y0, y1, y2]) rfl ⟨rfl, H.end_ _ _ _⟩

end Go.Proofs.Ythkdaoomnfgooaa
