/- The contracts of mixing in the reference, and of unmixing. -/
import Derived.Test.YtlgjnidphldiiaaPerm
namespace Go.Proofs.Ytlgjnidphldiiaa
open Go.RowKit

theorem FillAt.next {w wr w2 : World} {b0 b1 bo : Nat} {s m : T3} {k : Nat} (H : FillAt w wr b0 b1 bo s m k) (hb : Below wr.heap.size wr w2) (v : Value) (he : (outA m k).setIfInBounds k v = outA m (k + 1)) :
    FillAt w (w2.setCell ⟨bo, k, none⟩ v) b0 b1 bo s m (k + 1) :=
  ⟨(H.src.mono hb).other H.d0 _ _, (H.res.mono hb).other H.d1 _ _, by have := (H.out.mono hb).set k v; rwa [he] at this,
    (H.b.trans (hb.mono H.b.size)).setCell (by exact H.no) _, H.n0, H.n1, H.no, H.d0, H.d1⟩

/-- The end: the array that has been filled is copied into the result. -/
theorem FillAt.end_ {w wr : World} {b0 b1 bo : Nat} {s m : T3} (H : FillAt w wr b0 b1 bo s m 3) (x y z : Value) :
    Below w.heap.size w (((wr.setCell ⟨b1, 0, none⟩ x).setCell ⟨b1, 1, none⟩ y).setCell ⟨b1, 2, none⟩ z) :=
  ((H.b.setCell (by exact H.n1) _).setCell (by exact H.n1) _).setCell (by exact H.n1) _

set_option maxHeartbeats 1000000 in
theorem rMix_any (p : Int) (s : T3) (w : World) (hs : W3 s) :
    Calls Try.prog 139 #[.int .u64 p, .agg #[.int .u64 s.a, .int .u64 s.b, .int .u64 s.c]] w fun e w' => e = .returned (.agg #[.int .u64 (mix p s).a, .int .u64 (mix p s).b, .int .u64 (mix p s).c]) ∧ Below w.heap.size w w' := by
  obtain ⟨⟨a0, a1⟩, ⟨b0, b1⟩, c0, c1⟩ := hs
  have s1 : 0 ≤ sum3 p s ∧ sum3 p s < 18446744073709551616 := fadd_bd _ _ _
  have hsum := fsum3 p s
  go_enter Try.func139, Try.ntmps139
  go_wp2_with fail
  refine name_calls fun W hW => ?_
  have g0 : Blk W w.heap.size (A3 s) 112 := by rw [hW]; exact ((Blk.newAt rfl).alloc _).alloc _
  have g1 : Blk W (w.heap.size + 1) (A3 ⟨0, 0, 0⟩) 112 := by rw [hW]; exact (Blk.newAt (by simp)).alloc _
  have g2 : Blk W (w.heap.size + 2) #[.int .u64 s.a, .int .u64 s.b, .int .u64 s.c] 22 := by rw [hW]; exact Blk.newAt (by simp)
  have hB : Below w.heap.size w W := by rw [hW]; exact (((Below.refl _ _).alloc (Nat.le_refl _) _).alloc (by simp) _).alloc (by simp; omega) _
  clear hW
  refine (rSum_any p (some ⟨w.heap.size + 2, 0, none⟩) 3 [s.a, s.b, s.c] _ (sl3 g2) (by intro x hx; simp at hx; omega) (by simp)).mono ?_
  rintro e w1 ⟨rfl, hb1⟩
  rw [hsum]
  replace hB := below2 hB hb1
  replace g0 := g0.mono hb1
  replace g1 := g1.mono hb1
  clear g2 hb1 hsum
  have l0 := g0.lt; have l1 := g1.lt
  have F0 : FillAt w (w1.alloc (.cells #[.int .u64 0, .int .u64 0, .int .u64 0] 112)) w.heap.size (w.heap.size + 1) w1.heap.size s (mix p s) 0 :=
    ⟨g0.alloc _, g1.alloc _, Blk.new _ _ _, hB.alloc (by omega) _, by omega, by omega, by omega, by omega, by omega⟩
  clear g0 g1 hB
  go_wp2
  go_loopw [7] (fun t7 wr => ∃ k : Nat, k ≤ 3 ∧ t7 = .int .i64 k ∧ FillAt w wr w.heap.size (w.heap.size + 1) w1.heap.size s (mix p s) k) (fun t7 _ => 3 - (intOf t7).toNat)
  case atStart => exact ⟨0, by omega, rfl, F0⟩
  case round =>
    obtain ⟨k, hk, rfl, H⟩ := hrel
    by_cases hlt : k < 3
    · have q0 := H.src.cell (j := 0) (v := .int .u64 s.a) rfl
      have q1 := H.src.cell (j := 1) (v := .int .u64 s.b) rfl
      have q2 := H.src.cell (j := 2) (v := .int .u64 s.c) rfl
      obtain rfl | rfl | rfl : k = 0 ∨ k = 1 ∨ k = 2 := by omega
      · go_wp2_with fail
        refine (rAdd_any p s.a (sum3 p s) _ a0 a1 s1.1 s1.2).mono ?_
        rintro e w2 ⟨rfl, hb2⟩
        have y := (H.out.mono hb2).cell (j := 0) (v := .int .u64 0) rfl
        have f := (H.out.mono hb2).free 0
        go_wp2
        go_roundw
        case rel => exact ⟨1, by omega, rfl, H.next hb2 _ rfl⟩
        case measure => simp [intOf]
      · go_wp2_with fail
        refine (rAdd_any p s.b (sum3 p s) _ b0 b1 s1.1 s1.2).mono ?_
        rintro e w2 ⟨rfl, hb2⟩
        have y := (H.out.mono hb2).cell (j := 1) (v := .int .u64 0) rfl
        have f := (H.out.mono hb2).free 1
        go_wp2
        go_roundw
        case rel => exact ⟨2, by omega, rfl, H.next hb2 _ rfl⟩
        case measure => simp [intOf]
      · go_wp2_with fail
        refine (rAdd_any p s.c (sum3 p s) _ c0 c1 s1.1 s1.2).mono ?_
        rintro e w2 ⟨rfl, hb2⟩
        have y := (H.out.mono hb2).cell (j := 2) (v := .int .u64 0) rfl
        have f := (H.out.mono hb2).free 2
        go_wp2
        go_roundw
        case rel => exact ⟨3, by omega, rfl, H.next hb2 _ rfl⟩
        case measure => simp [intOf]
    · obtain rfl : k = 3 := by omega
      have m0 := H.out.cell (j := 0) (v := .int .u64 (mix p s).a) rfl
      have m1 := H.out.cell (j := 1) (v := .int .u64 (mix p s).b) rfl
      have m2 := H.out.cell (j := 2) (v := .int .u64 (mix p s).c) rfl
      have y0 := H.res.cell (j := 0) (v := .int .u64 0) rfl
      have y1 := H.res.cell (j := 1) (v := .int .u64 0) rfl
      have y2 := H.res.cell (j := 2) (v := .int .u64 0) rfl
      have f := H.res.free
      go_wp2
      exact bodyPost_ret (v := .agg #[.int .u64 (mix p s).a, .int .u64 (mix p s).b, .int .u64 (mix p s).c]) (by simp [results, Try.results139, go_sem, y0, y1, y2]) rfl ⟨rfl, H.end_ _ _ _⟩

end Go.Proofs.Ytlgjnidphldiiaa
