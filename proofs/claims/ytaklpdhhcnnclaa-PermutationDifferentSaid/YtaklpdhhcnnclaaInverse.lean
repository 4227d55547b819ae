/- The inverse of the permutation: what it computes, that it undoes the permutation, and the walk of the program. -/
import Derived.Test.YtaklpdhhcnnclaaRoot
namespace Go.Proofs.Ytaklpdhhcnnclaa
open Go.RowKit

def ibox (p r i x : Int) : Int := fsub p (fpow p x (droot p)) (fconst p r i)
def isub3 (p r : Int) (s : T3) : T3 := ⟨ibox p r 0 s.a, ibox p r 1 s.b, ibox p r 2 s.c⟩
def invN (p : Int) : Nat → T3 → T3
  | 0, s => s
  | k + 1, s => invN p k (isub3 p k (unmix p s))
def inverse (p : Int) (s : T3) : T3 := if vld p then invN p 8 s else ⟨0, 0, 0⟩

theorem isub3_W3 (p r : Int) (s : T3) : W3 (isub3 p r s) := ⟨fsub_bd _ _ _, fsub_bd _ _ _, fsub_bd _ _ _⟩
theorem invN_W3 (p : Int) : ∀ (n : Nat) (s : T3), W3 s → W3 (invN p n s)
  | 0, _, h => h
  | n + 1, _, _ => invN_W3 p n _ (isub3_W3 _ _ _)
theorem inverse_W3 (p : Int) (s : T3) (h : W3 s) : W3 (inverse p s) := by
  unfold inverse
  split
  · exact invN_W3 _ _ _ h
  · exact ⟨by decide, by decide, by decide⟩

theorem invN_succ (p r : Int) (s : T3) (h : 0 ≤ r) : invN p (r + 1).toNat s = invN p r.toNat (isub3 p r (unmix p s)) := by
  obtain ⟨n, rfl⟩ := Int.eq_ofNat_of_zero_le h
  rfl

theorem droot_bd (p : Int) : 0 ≤ droot p ∧ droot p < 18446744073709551616 := by
  unfold droot fnum
  split <;> (try decide)
  repeat (split <;> (try decide))

set_option maxRecDepth 10000 in
set_option maxHeartbeats 4000000 in
theorem Inverse_any (p : Int) (s : T3) (w : World) (hs : W3 s) :
    Calls Try.prog 35 #[.int .u64 p, .agg #[.int .u64 s.a, .int .u64 s.b, .int .u64 s.c]] w fun e w' => e = .returned (.agg #[.int .u64 (inverse p s).a, .int .u64 (inverse p s).b, .int .u64 (inverse p s).c]) ∧ Below w.heap.size w w' := by
  obtain ⟨R, hR⟩ : ∃ R, R = inverse p s := ⟨_, rfl⟩
  rw [← hR]
  by_cases hv : vld p = true
  · replace hR : invN p 8 s = R := by rw [hR, inverse, if_pos hv]
    have E := droot_bd p
    obtain ⟨d, hd⟩ : ∃ d, d = droot p := ⟨_, rfl⟩
    have hD : ∀ W : World, Calls Try.prog 73 #[.agg #[.int .u64 p]] W fun e w' => e = .returned (.int .u64 d) ∧ Below W.heap.size W w' := fun W => by rw [hd]; exact rootExponent_any p hv W
    rw [← hd] at E
    replace hd := hide hd
    replace hR := hide hR
    go_enter Try.func35, Try.ntmps35
    go_wp2_with fail
    refine name_calls fun W hW => ?_
    have H : PS true p w W s := by
      rw [hW]
      exact ⟨((Blk.newAt rfl).alloc _).alloc _, (Blk.newAt (by simp)).alloc _, fun _ => Blk.newAt (by simp), (((Below.refl _ _).alloc (Nat.le_refl _) _).alloc (by simp) _).alloc (by simp; omega) _⟩
    clear hW
    refine (valid_any p W).mono ?_
    rintro e1 w1 ⟨rfl, hb1⟩
    replace H := H.mono hb1
    clear hb1
    rw [hv]
    have q3 := (H.fld rfl).cell (j := 0) (v := .int .u64 p) rfl
    go_wp2_with fail
    refine (hD _).mono ?_
    rintro e2 w2 ⟨rfl, hb2⟩
    replace H := H.mono hb2
    clear hb2 q3
    go_wp2_with fail
    go_loopw [7] (fun t7 wr => ∃ r : Int, -1 ≤ r ∧ r ≤ 7 ∧ t7 = .int .i64 r ∧ ∃ x, W3 x ∧ PS true p w wr x ∧ Hid (invN p (r + 1).toNat x = R)) (fun t7 _ => ((intOf t7) + 1).toNat)
    case atStart => exact ⟨7, by omega, by omega, rfl, s, hs, H, hR⟩
    case round =>
      obtain ⟨r, r0, r8, rfl, x, hxW, G, hG⟩ := hrel
      clear H
      by_cases hlt : 0 ≤ r
      · have hnext := invN_succ p r x hlt
        have m0 := G.src.cell (j := 0) (v := .int .u64 x.a) rfl
        have m1 := G.src.cell (j := 1) (v := .int .u64 x.b) rfl
        have m2 := G.src.cell (j := 2) (v := .int .u64 x.c) rfl
        obtain ⟨u, hu⟩ : ∃ u, u = unmix p x := ⟨_, rfl⟩
        have hUn : ∀ W : World, Calls Try.prog 31 #[.int .u64 p, .agg #[.int .u64 x.a, .int .u64 x.b, .int .u64 x.c]] W fun e w' => e = .returned (.agg #[.int .u64 u.a, .int .u64 u.b, .int .u64 u.c]) ∧ Below W.heap.size W w' := fun W => by rw [hu]; exact Unmix_any p x W hxW
        have huW : W3 u := by rw [hu]; exact unmix_W3 _ _
        rw [← hu] at hnext
        clear hu
        go_wp2_with fail
        refine (hUn _).mono ?_
        rintro e w4 ⟨rfl, hb4⟩
        replace G := G.mono hb4
        have f := G.src.free
        clear m0 m1 m2 hUn
        have m0 := G.src.cell (j := 0) (v := .int .u64 x.a) rfl
        have m1 := G.src.cell (j := 1) (v := .int .u64 x.b) rfl
        have m2 := G.src.cell (j := 2) (v := .int .u64 x.c) rfl
        obtain ⟨y, hy⟩ : ∃ y, y = isub3 p r u := ⟨_, rfl⟩
        have hyW : W3 y := by rw [hy]; exact isub3_W3 _ _ _
        have ya : fsub p (fpow p u.a d) (fconst p r 0) = y.a := by rw [hy, hd.out]; rfl
        have yb : fsub p (fpow p u.b d) (fconst p r 1) = y.b := by rw [hy, hd.out]; rfl
        have yc : fsub p (fpow p u.c d) (fconst p r 2) = y.c := by rw [hy, hd.out]; rfl
        rw [← hy] at hnext
        replace hnext : Hid (invN p (r - 1 + 1).toNat y = R) := by rw [show r - 1 + 1 = r by omega, ← hnext]; exact hG
        clear hy hG hxW
        have G0 : PS true p w (((w4.setCell ⟨w.heap.size, 0, none⟩ (.int .u64 u.a)).setCell ⟨w.heap.size, 1, none⟩ (.int .u64 u.b)).setCell ⟨w.heap.size, 2, none⟩ (.int .u64 u.c)) (upto 0 u y) := G.set3 (y := u)
        go_wp2_with fail
        clear m0 m1 m2 f G
        go_loopw [24] (fun t24 wr2 => ∃ k : Nat, k ≤ 3 ∧ t24 = .int .i64 k ∧ PS true p w wr2 (upto k u y)) (fun t24 _ => 3 - (intOf t24).toNat)
        case atStart => exact ⟨0, by omega, rfl, G0⟩
        case round =>
          obtain ⟨k, hk, rfl, G⟩ := hrel
          clear G0
          obtain ⟨⟨x0, x1⟩, ⟨x2, x3⟩, x4, x5⟩ := huW
          by_cases hlt3 : k < 3
          · have k3 := cell_later' ((G.fld rfl).cell (j := 0) (v := .int .u64 p) rfl)
            obtain rfl | rfl | rfl : k = 0 ∨ k = 1 ∨ k = 2 := by omega
            · have k0 := cell_later' (G.src.cell (j := 0) (v := .int .u64 u.a) rfl)
              have n1 := fconst_bd p r 0
              have n2 := fpow_bd p u.a d
              go_wp2_with fail
              refine Rel.wp_region_later_tail 13 Try.mixed (by kernel_rfl) ?_
              simp only [List.take_succ_cons, List.take_zero, List.drop_succ_cons, List.drop_zero]
              repeat (first | go_big_quiet_step (first | (go_at_call 25; exact Calls.later_of (Constant_any _ _ _ _)) | (go_at_call 64; exact Calls.later_of (Sub_any _ _ _ _ (by omega) (by omega) (by omega) (by omega))) | (go_at_call 70; exact Calls.later_of (Pow_any _ _ _ _ (by omega) (by omega) (by omega) (by omega)))) | quiet_step (first | (go_at_call 25; exact Calls.later_of (Constant_any _ _ _ _)) | (go_at_call 64; exact Calls.later_of (Sub_any _ _ _ _ (by omega) (by omega) (by omega) (by omega))) | (go_at_call 70; exact Calls.later_of (Pow_any _ _ _ _ (by omega) (by omega) (by omega) (by omega)))))
              refine wpQuiet_nil ?_
              intro w3 hb3
              replace hb3 := below_of_later hb3
              replace G := G.mono hb3
              have y' := G.src.cell (j := 0) (v := .int .u64 u.a) rfl
              have f := G.src.free 0
              go_wp2
              go_roundw
              case rel => exact ⟨1, by omega, rfl, G.set 0 _ (by rfl)⟩
              case measure => simp [intOf]
            · have k0 := cell_later' (G.src.cell (j := 1) (v := .int .u64 u.b) rfl)
              have n1 := fconst_bd p r 1
              have n2 := fpow_bd p u.b d
              go_wp2_with fail
              refine Rel.wp_region_later_tail 13 Try.mixed (by kernel_rfl) ?_
              simp only [List.take_succ_cons, List.take_zero, List.drop_succ_cons, List.drop_zero]
              repeat (first | go_big_quiet_step (first | (go_at_call 25; exact Calls.later_of (Constant_any _ _ _ _)) | (go_at_call 64; exact Calls.later_of (Sub_any _ _ _ _ (by omega) (by omega) (by omega) (by omega))) | (go_at_call 70; exact Calls.later_of (Pow_any _ _ _ _ (by omega) (by omega) (by omega) (by omega)))) | quiet_step (first | (go_at_call 25; exact Calls.later_of (Constant_any _ _ _ _)) | (go_at_call 64; exact Calls.later_of (Sub_any _ _ _ _ (by omega) (by omega) (by omega) (by omega))) | (go_at_call 70; exact Calls.later_of (Pow_any _ _ _ _ (by omega) (by omega) (by omega) (by omega)))))
              refine wpQuiet_nil ?_
              intro w3 hb3
              replace hb3 := below_of_later hb3
              replace G := G.mono hb3
              have y' := G.src.cell (j := 1) (v := .int .u64 u.b) rfl
              have f := G.src.free 1
              go_wp2
              go_roundw
              case rel => exact ⟨2, by omega, rfl, G.set 1 _ (by rfl)⟩
              case measure => simp [intOf]
            · have k0 := cell_later' (G.src.cell (j := 2) (v := .int .u64 u.c) rfl)
              have n1 := fconst_bd p r 2
              have n2 := fpow_bd p u.c d
              go_wp2_with fail
              refine Rel.wp_region_later_tail 13 Try.mixed (by kernel_rfl) ?_
              simp only [List.take_succ_cons, List.take_zero, List.drop_succ_cons, List.drop_zero]
              repeat (first | go_big_quiet_step (first | (go_at_call 25; exact Calls.later_of (Constant_any _ _ _ _)) | (go_at_call 64; exact Calls.later_of (Sub_any _ _ _ _ (by omega) (by omega) (by omega) (by omega))) | (go_at_call 70; exact Calls.later_of (Pow_any _ _ _ _ (by omega) (by omega) (by omega) (by omega)))) | quiet_step (first | (go_at_call 25; exact Calls.later_of (Constant_any _ _ _ _)) | (go_at_call 64; exact Calls.later_of (Sub_any _ _ _ _ (by omega) (by omega) (by omega) (by omega))) | (go_at_call 70; exact Calls.later_of (Pow_any _ _ _ _ (by omega) (by omega) (by omega) (by omega)))))
              refine wpQuiet_nil ?_
              intro w3 hb3
              replace hb3 := below_of_later hb3
              replace G := G.mono hb3
              have y' := G.src.cell (j := 2) (v := .int .u64 u.c) rfl
              have f := G.src.free 2
              go_wp2
              go_roundw
              case rel => exact ⟨3, by omega, rfl, G.set 2 _ (by rfl)⟩
              case measure => simp [intOf]
          · obtain rfl : k = 3 := by omega
            replace G : PS true p w wr y := G
            go_wp2
            go_roundw
            case rel => exact ⟨r - 1, by omega, by omega, rfl, y, hyW, G, hnext⟩
            case measure => simp [intOf]; omega
      · obtain rfl : r = -1 := by omega
        have hx : x = R := hG.out
        subst hx
        have m0 := G.src.cell (j := 0) (v := .int .u64 x.a) rfl
        have m1 := G.src.cell (j := 1) (v := .int .u64 x.b) rfl
        have m2 := G.src.cell (j := 2) (v := .int .u64 x.c) rfl
        have y0 := G.res.cell (j := 0) (v := .int .u64 0) rfl
        have y1 := G.res.cell (j := 1) (v := .int .u64 0) rfl
        have y2 := G.res.cell (j := 2) (v := .int .u64 0) rfl
        have f := G.res.free
        go_wp2
        exact bodyPost_ret (v := .agg #[.int .u64 x.a, .int .u64 x.b, .int .u64 x.c]) (by simp [results, Try.results35, go_sem, y0, y1, y2]) rfl ⟨rfl, G.end_ _ _ _⟩
  · have hv := vld_no hv
    replace hR : R = ⟨0, 0, 0⟩ := by rw [hR, inverse, hv]; rfl
    subst hR
    go_enter Try.func35, Try.ntmps35
    go_wp2_with fail
    refine name_calls fun W hW => ?_
    have H : PS true p w W s := by
      rw [hW]
      exact ⟨((Blk.newAt rfl).alloc _).alloc _, (Blk.newAt (by simp)).alloc _, fun _ => Blk.newAt (by simp), (((Below.refl _ _).alloc (Nat.le_refl _) _).alloc (by simp) _).alloc (by simp; omega) _⟩
    clear hW
    refine (valid_any p W).mono ?_
    rintro e1 w1 ⟨rfl, hb1⟩
    replace H := H.mono hb1
    clear hb1
    rw [hv]
    have y0 := H.res.cell (j := 0) (v := .int .u64 0) rfl
    have y1 := H.res.cell (j := 1) (v := .int .u64 0) rfl
    have y2 := H.res.cell (j := 2) (v := .int .u64 0) rfl
    have f := H.res.free
    go_wp2
    exact bodyPost_ret (v := .agg #[.int .u64 0, .int .u64 0, .int .u64 0]) (by simp [results, Try.results35, go_sem, y0, y1, y2]) rfl ⟨rfl, H.end_ _ _ _⟩

end Go.Proofs.Ytaklpdhhcnnclaa
