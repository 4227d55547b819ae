/- The permutation: what it computes, in plain Lean, and the walks of the program and of the reference. -/
import Derived.Test.YthkdaoomnfgooaaFrame
namespace Go.Proofs.Ythkdaoomnfgooaa
open Go.RowKit

def sbox (p r i x : Int) : Int := fpow p (fadd p x (fconst p r i)) (fexp p)
def sub3 (p r : Int) (s : T3) : T3 := ⟨sbox p r 0 s.a, sbox p r 1 s.b, sbox p r 2 s.c⟩
def permN (p : Int) : Nat → T3 → T3
  | 0, s => s
  | k + 1, s => mix p (sub3 p k (permN p k s))
def permute (p : Int) (s : T3) : T3 := if vld p then permN p 8 s else ⟨0, 0, 0⟩

theorem sub3_W3 (p r : Int) (s : T3) : W3 (sub3 p r s) := ⟨fpow_bd _ _ _, fpow_bd _ _ _, fpow_bd _ _ _⟩
theorem permN_W3 (p : Int) : ∀ (n : Nat) (s : T3), W3 s → W3 (permN p n s)
  | 0, _, h => h
  | _ + 1, _, _ => mix_W3 _ _
theorem permute_W3 (p : Int) (s : T3) (h : W3 s) : W3 (permute p s) := by
  unfold permute
  split
  · exact permN_W3 _ _ _ h
  · exact ⟨by decide, by decide, by decide⟩

theorem permN_succ (p r : Int) (s : T3) (h : 0 ≤ r) : permN p (r + 1).toNat s = mix p (sub3 p r (permN p r.toNat s)) := by
  obtain ⟨n, rfl⟩ := Int.eq_ofNat_of_zero_le h
  rfl

theorem fexp_bd (p : Int) : 0 ≤ fexp p ∧ fexp p < 18446744073709551616 := by
  unfold fexp fnum
  split <;> (try decide)
  repeat (split <;> (try decide))

/-- The first k elements of t, the others of s. -/
def upto (k : Nat) (s t : T3) : T3 := ⟨if 0 < k then t.a else s.a, if 1 < k then t.b else s.b, if 2 < k then t.c else s.c⟩

/-- A state in its block, the result's block behind it, the field in a third. -/
structure PS (pr : Bool) (p : Int) (w wr : World) (x : T3) : Prop where
  src : Blk wr w.heap.size (A3 x) 95
  res : Blk wr (w.heap.size + 1) (A3 ⟨0, 0, 0⟩) 95
  fld : pr = true → Blk wr (w.heap.size + 2) #[.int .u64 p] 94
  b : Below w.heap.size w wr

theorem PS.mono {pr : Bool} {p : Int} {w wr w2 : World} {x : T3} (H : PS pr p w wr x) (hb : Below wr.heap.size wr w2) : PS pr p w w2 x :=
  ⟨H.src.mono hb, H.res.mono hb, fun h => (H.fld h).mono hb, below2 H.b hb⟩

theorem PS.set {pr : Bool} {p : Int} {w wr : World} {x y : T3} (H : PS pr p w wr x) (k : Nat) (v : Value) (he : (A3 x).setIfInBounds k v = A3 y) : PS pr p w (wr.setCell ⟨w.heap.size, k, none⟩ v) y :=
  ⟨by have := H.src.set k v; rwa [he] at this, H.res.other (by omega) _ _, fun h => (H.fld h).other (by omega) _ _, H.b.setCell (Nat.le_refl _) _⟩

theorem PS.set3 {pr : Bool} {p : Int} {w wr : World} {x y : T3} (H : PS pr p w wr x) : PS pr p w (((wr.setCell ⟨w.heap.size, 0, none⟩ (.int .u64 y.a)).setCell ⟨w.heap.size, 1, none⟩ (.int .u64 y.b)).setCell ⟨w.heap.size, 2, none⟩ (.int .u64 y.c)) y :=
  ((H.set (y := ⟨y.a, x.b, x.c⟩) 0 _ rfl).set (y := ⟨y.a, y.b, x.c⟩) 1 _ rfl).set (y := y) 2 _ rfl

theorem PS.end_ {pr : Bool} {p : Int} {w wr : World} {x : T3} (H : PS pr p w wr x) (u v z : Value) :
    Below w.heap.size w (((wr.setCell ⟨w.heap.size + 1, 0, none⟩ u).setCell ⟨w.heap.size + 1, 1, none⟩ v).setCell ⟨w.heap.size + 1, 2, none⟩ z) :=
  ((H.b.setCell (by simp) _).setCell (by simp) _).setCell (by simp) _

set_option maxRecDepth 10000 in
set_option maxHeartbeats 4000000 in
theorem Permute_any (p : Int) (s : T3) (w : World) (hs : W3 s) :
    Calls Try.prog 75 #[.int .u64 p, .agg #[.int .u64 s.a, .int .u64 s.b, .int .u64 s.c]] w fun e w' => e = .returned (.agg #[.int .u64 (permute p s).a, .int .u64 (permute p s).b, .int .u64 (permute p s).c]) ∧ Below w.heap.size w w' := by
  obtain ⟨R, hR⟩ : ∃ R, R = permute p s := ⟨_, rfl⟩
  rw [← hR]
  by_cases hv : vld p = true
  · replace hR : R = permN p 8 s := by rw [hR, permute, if_pos hv]
    replace hR := hide hR
    go_enter Try.func75, Try.ntmps75
    go_wp2_with fail
    refine name_calls fun W hW => ?_
    have H : PS true p w W s := by
      rw [hW]
      exact ⟨((Blk.newAt rfl).alloc _).alloc _, (Blk.newAt (by simp)).alloc _, fun _ => Blk.newAt (by simp), (((Below.refl _ _).alloc (Nat.le_refl _) _).alloc (by simp) _).alloc (by simp; omega) _⟩
    clear hW
    refine (valid_any p W).mono ?_
    rintro e1 w1 ⟨rfl, hb1⟩
    replace H := H.mono hb1
    clear hb1
    rw [hv]
    have q3 := (H.fld rfl).cell (j := 0) (v := .int .u64 p) rfl
    go_wp2_with fail
    refine (Exponent_any p _).mono ?_
    rintro e2 w2 ⟨rfl, hb2⟩
    have E := fexp_bd p
    replace H := H.mono hb2
    clear hb2 q3
    obtain ⟨ex, hex⟩ : ∃ ex, ex = fexp p := ⟨_, rfl⟩
    rw [← hex] at E ⊢
    replace hex := hide hex
    go_wp2_with fail
    go_loopw [17] (fun t17 wr => ∃ r : Int, 0 ≤ r ∧ r ≤ 8 ∧ t17 = .int .i64 r ∧ PS true p w wr (permN p r.toNat s)) (fun t17 _ => 8 - (intOf t17).toNat)
    case atStart => exact ⟨0, by omega, by omega, rfl, H⟩
    case round =>
      obtain ⟨r, r0, r8, rfl, G⟩ := hrel
      clear H
      by_cases hlt : r < 8
      · have hnext := permN_succ p r s r0
        obtain ⟨x, hx⟩ : ∃ x, x = permN p r.toNat s := ⟨_, rfl⟩
        have hxW : W3 x := by rw [hx]; exact permN_W3 _ _ _ hs
        rw [← hx] at G hnext
        obtain ⟨y, hy⟩ : ∃ y, y = sub3 p r x := ⟨_, rfl⟩
        have hyW : W3 y := by rw [hy]; exact sub3_W3 _ _ _
        have ya : fpow p (fadd p x.a (fconst p r 0)) ex = y.a := by rw [hy, hex.out]; rfl
        have yb : fpow p (fadd p x.b (fconst p r 1)) ex = y.b := by rw [hy, hex.out]; rfl
        have yc : fpow p (fadd p x.c (fconst p r 2)) ex = y.c := by rw [hy, hex.out]; rfl
        rw [← hy] at hnext
        replace hnext := hide hnext
        clear hx hy
        have G0 : PS true p w wr (upto 0 x y) := G
        clear G
        go_wp2_with fail
        go_loopw [20] (fun t20 wr2 => ∃ k : Nat, k ≤ 3 ∧ t20 = .int .i64 k ∧ PS true p w wr2 (upto k x y)) (fun t20 _ => 3 - (intOf t20).toNat)
        case atStart => exact ⟨0, by omega, rfl, G0⟩
        case round =>
          obtain ⟨k, hk, rfl, G⟩ := hrel
          clear G0
          obtain ⟨⟨x0, x1⟩, ⟨x2, x3⟩, x4, x5⟩ := hxW
          by_cases hlt3 : k < 3
          · have k3 := cell_later' ((G.fld rfl).cell (j := 0) (v := .int .u64 p) rfl)
            obtain rfl | rfl | rfl : k = 0 ∨ k = 1 ∨ k = 2 := by omega
            · have k0 := cell_later' (G.src.cell (j := 0) (v := .int .u64 x.a) rfl)
              have n1 := fconst_bd p r 0
              have n2 := fadd_bd p x.a (fconst p r 0)
              go_wp2_with fail
              refine Rel.wp_region_later_tail 13 Try.mixed (by kernel_rfl) ?_
              simp only [List.take_succ_cons, List.take_zero, List.drop_succ_cons, List.drop_zero]
              repeat (first | go_big_quiet_step (first | (go_at_call 86; exact Calls.later_of (Constant_any _ _ _ _)) | (go_at_call 73; exact Calls.later_of (Add_any _ _ _ _ (by omega) (by omega) (by omega) (by omega))) | (go_at_call 85; exact Calls.later_of (Pow_any _ _ _ _ (by omega) (by omega) (by omega) (by omega)))) | quiet_step (first | (go_at_call 86; exact Calls.later_of (Constant_any _ _ _ _)) | (go_at_call 73; exact Calls.later_of (Add_any _ _ _ _ (by omega) (by omega) (by omega) (by omega))) | (go_at_call 85; exact Calls.later_of (Pow_any _ _ _ _ (by omega) (by omega) (by omega) (by omega)))))
              refine wpQuiet_nil ?_
              intro w3 hb3
              replace hb3 := below_of_later hb3
              replace G := G.mono hb3
              have y' := G.src.cell (j := 0) (v := .int .u64 x.a) rfl
              have f := G.src.free 0
              go_wp2
              go_roundw
              case rel => exact ⟨1, by omega, rfl, G.set 0 _ (by rfl)⟩
              case measure => simp [intOf]

            · have k0 := cell_later' (G.src.cell (j := 1) (v := .int .u64 x.b) rfl)
              have n1 := fconst_bd p r 1
              have n2 := fadd_bd p x.b (fconst p r 1)
              go_wp2_with fail
              refine Rel.wp_region_later_tail 13 Try.mixed (by kernel_rfl) ?_
              simp only [List.take_succ_cons, List.take_zero, List.drop_succ_cons, List.drop_zero]
              repeat (first | go_big_quiet_step (first | (go_at_call 86; exact Calls.later_of (Constant_any _ _ _ _)) | (go_at_call 73; exact Calls.later_of (Add_any _ _ _ _ (by omega) (by omega) (by omega) (by omega))) | (go_at_call 85; exact Calls.later_of (Pow_any _ _ _ _ (by omega) (by omega) (by omega) (by omega)))) | quiet_step (first | (go_at_call 86; exact Calls.later_of (Constant_any _ _ _ _)) | (go_at_call 73; exact Calls.later_of (Add_any _ _ _ _ (by omega) (by omega) (by omega) (by omega))) | (go_at_call 85; exact Calls.later_of (Pow_any _ _ _ _ (by omega) (by omega) (by omega) (by omega)))))
              refine wpQuiet_nil ?_
              intro w3 hb3
              replace hb3 := below_of_later hb3
              replace G := G.mono hb3
              have y' := G.src.cell (j := 1) (v := .int .u64 x.b) rfl
              have f := G.src.free 1
              go_wp2
              go_roundw
              case rel => exact ⟨2, by omega, rfl, G.set 1 _ (by rfl)⟩
              case measure => simp [intOf]

            · have k0 := cell_later' (G.src.cell (j := 2) (v := .int .u64 x.c) rfl)
              have n1 := fconst_bd p r 2
              have n2 := fadd_bd p x.c (fconst p r 2)
              go_wp2_with fail
              refine Rel.wp_region_later_tail 13 Try.mixed (by kernel_rfl) ?_
              simp only [List.take_succ_cons, List.take_zero, List.drop_succ_cons, List.drop_zero]
              repeat (first | go_big_quiet_step (first | (go_at_call 86; exact Calls.later_of (Constant_any _ _ _ _)) | (go_at_call 73; exact Calls.later_of (Add_any _ _ _ _ (by omega) (by omega) (by omega) (by omega))) | (go_at_call 85; exact Calls.later_of (Pow_any _ _ _ _ (by omega) (by omega) (by omega) (by omega)))) | quiet_step (first | (go_at_call 86; exact Calls.later_of (Constant_any _ _ _ _)) | (go_at_call 73; exact Calls.later_of (Add_any _ _ _ _ (by omega) (by omega) (by omega) (by omega))) | (go_at_call 85; exact Calls.later_of (Pow_any _ _ _ _ (by omega) (by omega) (by omega) (by omega)))))
              refine wpQuiet_nil ?_
              intro w3 hb3
              replace hb3 := below_of_later hb3
              replace G := G.mono hb3
              have y' := G.src.cell (j := 2) (v := .int .u64 x.c) rfl
              have f := G.src.free 2
              go_wp2
              go_roundw
              case rel => exact ⟨3, by omega, rfl, G.set 2 _ (by rfl)⟩
              case measure => simp [intOf]

          · obtain rfl : k = 3 := by omega
            replace G : PS true p w wr y := G
            have m0 := G.src.cell (j := 0) (v := .int .u64 y.a) rfl
            have m1 := G.src.cell (j := 1) (v := .int .u64 y.b) rfl
            have m2 := G.src.cell (j := 2) (v := .int .u64 y.c) rfl
            go_wp2_with fail
            refine (Mix_any p y _ hyW).mono ?_
            rintro e w4 ⟨rfl, hb4⟩
            replace G := G.mono hb4
            have f := G.src.free
            clear m0 m1 m2
            have m0 := G.src.cell (j := 0) (v := .int .u64 y.a) rfl
            have m1 := G.src.cell (j := 1) (v := .int .u64 y.b) rfl
            have m2 := G.src.cell (j := 2) (v := .int .u64 y.c) rfl
            go_wp2
            go_roundw
            case rel => exact ⟨r + 1, by omega, by omega, rfl, by rw [hnext.out]; exact G.set3⟩
            case measure => simp [intOf]; omega
      · obtain rfl : r = 8 := by omega
        have G' : PS true p w wr R := by rw [hR.out]; exact G
        clear G
        have m0 := G'.src.cell (j := 0) (v := .int .u64 R.a) rfl
        have m1 := G'.src.cell (j := 1) (v := .int .u64 R.b) rfl
        have m2 := G'.src.cell (j := 2) (v := .int .u64 R.c) rfl
        have y0 := G'.res.cell (j := 0) (v := .int .u64 0) rfl
        have y1 := G'.res.cell (j := 1) (v := .int .u64 0) rfl
        have y2 := G'.res.cell (j := 2) (v := .int .u64 0) rfl
        have f := G'.res.free
        go_wp2
        exact bodyPost_ret (v := .agg #[.int .u64 R.a, .int .u64 R.b, .int .u64 R.c]) (by simp [results, Try.results75, go_sem, y0, y1, y2]) rfl ⟨rfl, G'.end_ _ _ _⟩
  · have hv := vld_no hv
    replace hR : R = ⟨0, 0, 0⟩ := by rw [hR, permute, hv]; rfl
    subst hR
    go_enter Try.func75, Try.ntmps75
    go_wp2_with fail
    refine name_calls fun W hW => ?_
    have H : PS true p w W s := by
      rw [hW]
      exact ⟨((Blk.newAt rfl).alloc _).alloc _, (Blk.newAt (by simp)).alloc _, fun _ => Blk.newAt (by simp), (((Below.refl _ _).alloc (Nat.le_refl _) _).alloc (by simp) _).alloc (by simp; omega) _⟩
    clear hW
    refine (valid_any p W).mono ?_
    rintro e1 w1 ⟨rfl, hb1⟩
    replace H := H.mono hb1
    clear hb1
    rw [hv]
    have y0 := H.res.cell (j := 0) (v := .int .u64 0) rfl
    have y1 := H.res.cell (j := 1) (v := .int .u64 0) rfl
    have y2 := H.res.cell (j := 2) (v := .int .u64 0) rfl
    have f := H.res.free
    go_wp2
    exact bodyPost_ret (v := .agg #[.int .u64 0, .int .u64 0, .int .u64 0]) (by simp [results, Try.results75, go_sem, y0, y1, y2]) rfl ⟨rfl, H.end_ _ _ _⟩

end Go.Proofs.Ythkdaoomnfgooaa
