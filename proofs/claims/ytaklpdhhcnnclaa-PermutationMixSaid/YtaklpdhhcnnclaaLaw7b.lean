/- PermutationMix: what Mix computes, and that it respects sums. -/
import Derived.Test.YtaklpdhhcnnclaaFrame
import Derived.Test.YtaklpdhhcnnclaaMath
namespace Go.Proofs.Ytaklpdhhcnnclaa
open Go.ChangeShapes Go.WideShapes Go.ChangeAt Go.RowKit

def add3 (p : Int) (s t : T3) : T3 := ⟨fadd p s.a t.a, fadd p s.b t.b, fadd p s.c t.c⟩
theorem add3_W3 (p : Int) (s t : T3) : W3 (add3 p s t) := ⟨fadd_bd _ _ _, fadd_bd _ _ _, fadd_bd _ _ _⟩

theorem mix_add (p : Int) (s t : T3) : mix p (add3 p s t) = add3 p (mix p s) (mix p t) := by
  cases hv : vld p with
  | false =>
    obtain ⟨_, h, _, _⟩ := invalid_zero hv
    simp [mix, add3, h]
  | true =>
    unfold mix add3
    simp only [fadd_eq hv, sum3_valid hv, Int.emod_add_emod, Int.add_emod_emod, T3.mk.injEq]
    have key : ∀ x y, (x + y + ((s.a + t.a) % p + (s.b + t.b) % p + (s.c + t.c))) % p = (x + (s.a + s.b + s.c) + (y + (t.a + t.b + t.c))) % p := fun x y => by
      rw [show x + y + ((s.a + t.a) % p + (s.b + t.b) % p + (s.c + t.c)) = (s.a + t.a) % p + (x + y + (s.c + t.c) + (s.b + t.b) % p) by omega, Int.emod_add_emod, ← Int.add_assoc, Int.add_emod_emod]
      congr 1
      omega
    exact ⟨by rw [key], by rw [key], by rw [key]⟩

/-- A new array of three. -/
def NewA (n : Nat) (cs : Array Value) (T : TypeId) (v : Value) (w : World) : Prop := ∃ b, v = .pointer (some ⟨b, 0, none⟩) ∧ n ≤ b ∧ Blk w b cs T

theorem NewA.keep {n : Nat} {cs : Array Value} {T : TypeId} {v : Value} {w w' : World} (h : NewA n cs T v w) (hb : Below w.heap.size w w') : NewA n cs T v w' := by
  obtain ⟨b, h1, h2, h3⟩ := h
  exact ⟨b, h1, h2, h3.mono hb⟩

theorem rUpon_alloc3 (W : World) (p : Later) (fr : Bool) (T : TypeId) :
    Rel.rUpon Try.prog (later W p) fr (NewA W.heap.size (A3 ⟨0, 0, 0⟩) T) (.ok (.value (.pointer (some ⟨(later W p).heap.size, 0, none⟩))) ((later W p).alloc (.cells #[.int .u64 0, .int .u64 0, .int .u64 0] T))) :=
  ⟨(Below.refl _ _).alloc (Nat.le_refl _) _, ⟨_, rfl, (below_later W p).size, Blk.new _ _ _⟩, fun _ => ⟨_, rfl, Nat.le_refl _, by simp⟩⟩

theorem Blk.other3 {w : World} {b c : Nat} {cs : Array Value} {T : TypeId} (h : Blk w b cs T) (hbc : c ≠ b) (x y z : Value) : Blk (((w.setCell ⟨c, 0, none⟩ x).setCell ⟨c, 1, none⟩ y).setCell ⟨c, 2, none⟩ z) b cs T :=
  ((h.other hbc _ _).other hbc _ _).other hbc _ _
theorem Blk.set3 {w : World} {b : Nat} {p q r x y z : Value} {T : TypeId} (h : Blk w b #[p, q, r] T) : Blk (((w.setCell ⟨b, 0, none⟩ x).setCell ⟨b, 1, none⟩ y).setCell ⟨b, 2, none⟩ z) b #[x, y, z] T :=
  ((h.set 0 x).set 1 y).set 2 z
theorem below_set3 {w w' : World} {n c : Nat} (h : Below n w w') (hc : n ≤ c) (x y z : Value) : Below n w (((w'.setCell ⟨c, 0, none⟩ x).setCell ⟨c, 1, none⟩ y).setCell ⟨c, 2, none⟩ z) :=
  ((h.setCell (by exact hc) _).setCell (by exact hc) _).setCell (by exact hc) _

namespace permutationMix

structure L (w wr : World) (bx bo b8 b9 : Nat) (x y m u v : T3) (k : Nat) : Prop where
  x : Blk wr bx (A3 x) 26
  y : Blk wr (bx + 1) (A3 y) 26
  out : Blk wr bo (outA m k) 26
  c8 : Blk wr b8 (A3 u) 26
  c9 : Blk wr b9 (A3 v) 26
  b : Below w.heap.size w wr
  no : w.heap.size ≤ bo
  d0 : bo ≠ bx
  d1 : bo ≠ bx + 1
  d2 : bo ≠ b8
  d3 : bo ≠ b9

theorem L.next {w wr w2 : World} {bx bo b8 b9 : Nat} {x y m u v : T3} {k : Nat} (H : L w wr bx bo b8 b9 x y m u v k) (hb : Below wr.heap.size wr w2) (z : Value) (he : (outA m k).setIfInBounds k z = outA m (k + 1)) :
    L w (w2.setCell ⟨bo, k, none⟩ z) bx bo b8 b9 x y m u v (k + 1) :=
  ⟨(H.x.mono hb).other H.d0 _ _, (H.y.mono hb).other H.d1 _ _, by have := (H.out.mono hb).set k z; rwa [he] at this, (H.c8.mono hb).other H.d2 _ _, (H.c9.mono hb).other H.d3 _ _,
    (below2 H.b hb).setCell (by exact H.no) _, H.no, H.d0, H.d1, H.d2, H.d3⟩

structure L2 (w wr : World) (bx bi b8 b9 : Nat) (x u v : T3) (p : Int) : Prop where
  x : Blk wr bx (A3 x) 26
  i : Blk wr bi (A3 (add3 p u v)) 26
  c8 : Blk wr b8 (A3 u) 26
  c9 : Blk wr b9 (A3 v) 26
  b : Below w.heap.size w wr

theorem L2.mono {w wr w2 : World} {bx bi b8 b9 : Nat} {x u v : T3} {p : Int} (H : L2 w wr bx bi b8 b9 x u v p) (hb : Below wr.heap.size wr w2) : L2 w w2 bx bi b8 b9 x u v p :=
  ⟨H.x.mono hb, H.i.mono hb, H.c8.mono hb, H.c9.mono hb, below2 H.b hb⟩

set_option maxRecDepth 100000 in
set_option maxHeartbeats 2000000 in
theorem walk (p : Int) (x y : T3) (w : World) (_ : (Lit.int .u64 p).wf = true) (hx : W3 x) (hy : W3 y) :
    Calls Try.prog 4 #[.int .u64 p, .agg #[.int .u64 x.a, .int .u64 x.b, .int .u64 x.c], .agg #[.int .u64 y.a, .int .u64 y.b, .int .u64 y.c]] w fun e w' => e = .returned (.bool true) ∧ Below w.heap.size w w' := by
  have hx' := hx; have hy' := hy
  obtain ⟨⟨a0, a1⟩, ⟨b0, b1⟩, c0, c1⟩ := hx
  obtain ⟨⟨d0, d1⟩, ⟨e0, e1⟩, f0, f1⟩ := hy
  go_enter Try.func4, Try.ntmps4
  go_wp2_with fail
  refine name_calls fun W hW => ?_
  have g0 : Blk W w.heap.size (A3 x) 26 := by rw [hW]; exact (Blk.newAt rfl).alloc _
  have g1 : Blk W (w.heap.size + 1) (A3 y) 26 := by rw [hW]; exact Blk.newAt (by simp)
  have hB : Below w.heap.size w W := by rw [hW]; exact ((Below.refl _ _).alloc (Nat.le_refl _) _).alloc (by simp) _
  clear hW
  refine (awake7 _).mono ?_
  rintro e1 w1 ⟨rfl, hb1⟩
  replace hB := below2 hB hb1
  replace g0 := g0.mono hb1
  replace g1 := g1.mono hb1
  clear hb1
  go_wp2_with fail
  refine name_world fun W hW => ?_
  have l0 := g0.lt; have l1 := g1.lt
  have g2 : Blk W w1.heap.size (A3 ⟨0, 0, 0⟩) 26 := by rw [hW]; exact Blk.newAt rfl
  have hz : W.heap.size = w1.heap.size + 1 := by rw [hW]; simp
  have hn : w.heap.size ≤ w1.heap.size := by omega
  replace hz := hide hz
  replace hB : Below w.heap.size w W := by rw [hW]; exact hB.alloc hn _
  replace g0 : Blk W w.heap.size (A3 x) 26 := by rw [hW]; exact g0.alloc _
  replace g1 : Blk W (w.heap.size + 1) (A3 y) 26 := by rw [hW]; exact g1.alloc _
  clear hW
  have k0 := cell_later' (g0.cell (j := 0) (v := .int .u64 x.a) rfl); have k1 := cell_later' (g0.cell (j := 1) (v := .int .u64 x.b) rfl); have k2 := cell_later' (g0.cell (j := 2) (v := .int .u64 x.c) rfl)
  have k3 := cell_later' (g1.cell (j := 0) (v := .int .u64 y.a) rfl); have k4 := cell_later' (g1.cell (j := 1) (v := .int .u64 y.b) rfl); have k5 := cell_later' (g1.cell (j := 2) (v := .int .u64 y.c) rfl)
  refine Rel.wp_region_mix 8 [6, 7] [(6, NewA W.heap.size (A3 ⟨0, 0, 0⟩) 26), (7, NewA W.heap.size (A3 ⟨0, 0, 0⟩) 26)] Try.mixed (by kernel_rfl) (by kernel_rfl) ?_ ?_
  rotate_left
  simp only [List.take_succ_cons, List.take_zero, List.drop_succ_cons, List.drop_zero, List.map_cons, List.map_nil]
  repeat (first | (refine Rel.wpA_b (by rfl) ?_) | (refine Rel.wpA_step (by rfl) fun K hK => ?_; go_simp; first | (refine hK _ ?_; clear hK K) | (apply Exists.intro; refine ⟨fun _ => ?_, hK _ ?_⟩; (first | (go_at_call_of 27 (T3.a x); exact Mix_any p x _ hx') | (go_at_call_of 27 (T3.a y); exact Mix_any p y _ hy')); clear hK K)))
  refine Rel.wpA_nil ?_
  rotate_left
  · intro z hz v u u' h1 h2
    simp only [List.mem_cons, List.not_mem_nil, or_false] at hz
    rcases hz with rfl | rfl <;> exact NewA.keep h1 h2
  refine Rel.wpB_step _ rfl rfl (fun p' hc => ?_) (fun v8 => ?_)
  · go_simp
    exact rUpon_alloc3 _ _ _ _
  refine Rel.wpB_step _ rfl rfl (fun p' hc => ?_) (fun v9 => ?_)
  · go_simp
    exact rUpon_alloc3 _ _ _ _
  refine Rel.wpB_nil ?_
  intro p' hctx hfr
  simp only [List.nil_append, List.cons_append, List.mem_cons, List.not_mem_nil, or_false, forall_eq_or_imp, forall_eq] at hctx
  obtain ⟨⟨b8, rfl, n8, g8⟩, b9, rfl, n9, g9⟩ := hctx
  have h89 : b8 ≠ b9 := by simpa [Rel.blkOf] using hfr
  have hb2 : Below W.heap.size W (later W p') := below_later _ _
  clear hfr k0 k1 k2 k3 k4 k5
  generalize later W p' = w2 at *
  replace hB := below2 hB hb2
  replace g0 := g0.mono hb2; replace g1 := g1.mono hb2; replace g2 := g2.mono hb2
  clear hb2
  have q0 := g8.cell (j := 0) (v := .int .u64 0) rfl; have q1 := g8.cell (j := 1) (v := .int .u64 0) rfl; have q2 := g8.cell (j := 2) (v := .int .u64 0) rfl
  have q3 := g9.cell (j := 0) (v := .int .u64 0) rfl; have q4 := g9.cell (j := 1) (v := .int .u64 0) rfl; have q5 := g9.cell (j := 2) (v := .int .u64 0) rfl
  have f8 := g8.free; have f9 := g9.free
  obtain ⟨u, hu⟩ : ∃ u, u = mix p x := ⟨_, rfl⟩
  obtain ⟨v, hv⟩ : ∃ v, v = mix p y := ⟨_, rfl⟩
  have hm : mix p (add3 p x y) = add3 p u v := by rw [hu, hv, mix_add]
  have ub : W3 u := by rw [hu]; exact mix_W3 p x
  have vb : W3 v := by rw [hv]; exact mix_W3 p y
  rw [← hu, ← hv]
  replace hu := hide hu; replace hv := hide hv; replace hm := hide hm
  have hz1 := hz.out
  have F0 : L w ((((((w2.setCell ⟨b8, 0, none⟩ (.int .u64 u.a)).setCell ⟨b8, 1, none⟩ (.int .u64 u.b)).setCell ⟨b8, 2, none⟩ (.int .u64 u.c)).setCell ⟨b9, 0, none⟩ (.int .u64 v.a)).setCell ⟨b9, 1, none⟩ (.int .u64 v.b)).setCell ⟨b9, 2, none⟩ (.int .u64 v.c))
      w.heap.size w1.heap.size b8 b9 x y (add3 p x y) u v 0 :=
    ⟨(g0.other3 (by omega) _ _ _).other3 (by omega) _ _ _, (g1.other3 (by omega) _ _ _).other3 (by omega) _ _ _, (g2.other3 (by omega) _ _ _).other3 (by omega) _ _ _,
      (Blk.set3 g8).other3 (fun h => h89 h.symm) _ _ _, Blk.set3 (g9.other3 h89 _ _ _), below_set3 (below_set3 hB (by omega) _ _ _) (by omega) _ _ _, hn, by omega, by omega, by omega, by omega⟩
  clear hz1 n8 n9
  go_wp2_with fail
  clear q0 q1 q2 q3 q4 q5 f8 f9 g0 g1 g2 g8 g9 hB
  go_loopw [21] (fun t21 wr => ∃ k : Nat, k ≤ 3 ∧ t21 = .int .i64 k ∧ L w wr w.heap.size w1.heap.size b8 b9 x y (add3 p x y) u v k) (fun t21 _ => 3 - (intOf t21).toNat)
  case atStart => exact ⟨0, by omega, rfl, F0⟩
  case round =>
    obtain ⟨k, hk, rfl, H⟩ := hrel
    clear F0
    by_cases hlt : k < 3
    · have k0 := cell_later' (H.x.cell (j := 0) (v := .int .u64 x.a) rfl); have k1 := cell_later' (H.x.cell (j := 1) (v := .int .u64 x.b) rfl); have k2 := cell_later' (H.x.cell (j := 2) (v := .int .u64 x.c) rfl)
      have k3 := cell_later' (H.y.cell (j := 0) (v := .int .u64 y.a) rfl); have k4 := cell_later' (H.y.cell (j := 1) (v := .int .u64 y.b) rfl); have k5 := cell_later' (H.y.cell (j := 2) (v := .int .u64 y.c) rfl)
      obtain rfl | rfl | rfl : k = 0 ∨ k = 1 ∨ k = 2 := by omega
      · go_wp2_with fail
        refine Rel.wp_region_later_tail 9 Try.mixed (by kernel_rfl) ?_
        simp only [List.take_succ_cons, List.take_zero, List.drop_succ_cons, List.drop_zero]
        repeat (first | go_big_quiet_step (first | (go_at_call 28; exact Calls.later_of (rAdd_any _ _ _ _ (by omega) (by omega) (by omega) (by omega)))) | quiet_step (first | (go_at_call 28; exact Calls.later_of (rAdd_any _ _ _ _ (by omega) (by omega) (by omega) (by omega)))))
        refine wpQuiet_nil ?_
        intro w3 hb3
        replace hb3 := below_of_later hb3
        have y' := (H.out.mono hb3).cell (j := 0) (v := .int .u64 0) rfl
        have f := (H.out.mono hb3).free 0
        go_wp2
        go_roundw
        case rel => exact ⟨1, by omega, rfl, H.next hb3 _ rfl⟩
        case measure => simp [intOf]
      · go_wp2_with fail
        refine Rel.wp_region_later_tail 9 Try.mixed (by kernel_rfl) ?_
        simp only [List.take_succ_cons, List.take_zero, List.drop_succ_cons, List.drop_zero]
        repeat (first | go_big_quiet_step (first | (go_at_call 28; exact Calls.later_of (rAdd_any _ _ _ _ (by omega) (by omega) (by omega) (by omega)))) | quiet_step (first | (go_at_call 28; exact Calls.later_of (rAdd_any _ _ _ _ (by omega) (by omega) (by omega) (by omega)))))
        refine wpQuiet_nil ?_
        intro w3 hb3
        replace hb3 := below_of_later hb3
        have y' := (H.out.mono hb3).cell (j := 1) (v := .int .u64 0) rfl
        have f := (H.out.mono hb3).free 1
        go_wp2
        go_roundw
        case rel => exact ⟨2, by omega, rfl, H.next hb3 _ rfl⟩
        case measure => simp [intOf]
      · go_wp2_with fail
        refine Rel.wp_region_later_tail 9 Try.mixed (by kernel_rfl) ?_
        simp only [List.take_succ_cons, List.take_zero, List.drop_succ_cons, List.drop_zero]
        repeat (first | go_big_quiet_step (first | (go_at_call 28; exact Calls.later_of (rAdd_any _ _ _ _ (by omega) (by omega) (by omega) (by omega)))) | quiet_step (first | (go_at_call 28; exact Calls.later_of (rAdd_any _ _ _ _ (by omega) (by omega) (by omega) (by omega)))))
        refine wpQuiet_nil ?_
        intro w3 hb3
        replace hb3 := below_of_later hb3
        have y' := (H.out.mono hb3).cell (j := 2) (v := .int .u64 0) rfl
        have f := (H.out.mono hb3).free 2
        go_wp2
        go_roundw
        case rel => exact ⟨3, by omega, rfl, H.next hb3 _ rfl⟩
        case measure => simp [intOf]
    · obtain rfl : k = 3 := by omega
      have m0 := H.out.cell (j := 0) (v := .int .u64 (add3 p x y).a) rfl
      have m1 := H.out.cell (j := 1) (v := .int .u64 (add3 p x y).b) rfl
      have m2 := H.out.cell (j := 2) (v := .int .u64 (add3 p x y).c) rfl
      go_wp2_with fail
      refine (Mix_any p (add3 p x y) _ (add3_W3 p x y)).mono ?_
      rintro e w4 ⟨rfl, hb4⟩
      rw [hm.out]
      have F1 : L2 w (w4.alloc (.cells #[.int .u64 (add3 p u v).a, .int .u64 (add3 p u v).b, .int .u64 (add3 p u v).c] 26)) w.heap.size w4.heap.size b8 b9 x u v p :=
        ⟨(H.x.mono hb4).alloc _, Blk.new _ _ _, (H.c8.mono hb4).alloc _, (H.c9.mono hb4).alloc _, (below2 H.b hb4).alloc (by have := (below2 H.b hb4).size; omega) _⟩
      clear m0 m1 m2 H
      go_wp2_with fail
      go_loopw [38] (fun t38 wr2 => ∃ k : Nat, k ≤ 3 ∧ t38 = .int .i64 k ∧ L2 w wr2 w.heap.size w4.heap.size b8 b9 x u v p) (fun t38 _ => 3 - (intOf t38).toNat)
      case atStart => exact ⟨0, by omega, rfl, F1⟩
      case round =>
        obtain ⟨k, hk, rfl, H⟩ := hrel
        clear F1
        by_cases hlt : k < 3
        · have k0 := cell_later' (H.i.cell (j := 0) (v := .int .u64 (fadd p u.a v.a)) rfl); have k1 := cell_later' (H.i.cell (j := 1) (v := .int .u64 (fadd p u.b v.b)) rfl); have k2 := cell_later' (H.i.cell (j := 2) (v := .int .u64 (fadd p u.c v.c)) rfl)
          have k3 := cell_later' (H.c8.cell (j := 0) (v := .int .u64 u.a) rfl); have k4 := cell_later' (H.c8.cell (j := 1) (v := .int .u64 u.b) rfl); have k5 := cell_later' (H.c8.cell (j := 2) (v := .int .u64 u.c) rfl)
          have k6 := cell_later' (H.c9.cell (j := 0) (v := .int .u64 v.a) rfl); have k7 := cell_later' (H.c9.cell (j := 1) (v := .int .u64 v.b) rfl); have k8 := cell_later' (H.c9.cell (j := 2) (v := .int .u64 v.c) rfl)
          obtain ⟨⟨u0, u1⟩, ⟨u2, u3⟩, u4, u5⟩ := ub
          obtain ⟨⟨v0, v1⟩, ⟨v2, v3⟩, v4, v5⟩ := vb
          obtain rfl | rfl | rfl : k = 0 ∨ k = 1 ∨ k = 2 := by omega
          · go_wp2_with fail
            refine wp_region_later Try.mixed (by kernel_rfl) ?_
            repeat (first | go_big_quiet_step (first | (go_at_call 28; exact Calls.later_of (rAdd_any _ _ _ _ (by omega) (by omega) (by omega) (by omega)))) | quiet_step (first | (go_at_call 28; exact Calls.later_of (rAdd_any _ _ _ _ (by omega) (by omega) (by omega) (by omega)))))
            refine wpQuiet_nil ?_
            intro w5 hb5
            replace hb5 := below_of_later hb5
            go_wp2
            go_roundw
            case rel => exact ⟨1, by omega, rfl, H.mono hb5⟩
            case measure => simp [intOf]
          · go_wp2_with fail
            refine wp_region_later Try.mixed (by kernel_rfl) ?_
            repeat (first | go_big_quiet_step (first | (go_at_call 28; exact Calls.later_of (rAdd_any _ _ _ _ (by omega) (by omega) (by omega) (by omega)))) | quiet_step (first | (go_at_call 28; exact Calls.later_of (rAdd_any _ _ _ _ (by omega) (by omega) (by omega) (by omega)))))
            refine wpQuiet_nil ?_
            intro w5 hb5
            replace hb5 := below_of_later hb5
            go_wp2
            go_roundw
            case rel => exact ⟨2, by omega, rfl, H.mono hb5⟩
            case measure => simp [intOf]
          · go_wp2_with fail
            refine wp_region_later Try.mixed (by kernel_rfl) ?_
            repeat (first | go_big_quiet_step (first | (go_at_call 28; exact Calls.later_of (rAdd_any _ _ _ _ (by omega) (by omega) (by omega) (by omega)))) | quiet_step (first | (go_at_call 28; exact Calls.later_of (rAdd_any _ _ _ _ (by omega) (by omega) (by omega) (by omega)))))
            refine wpQuiet_nil ?_
            intro w5 hb5
            replace hb5 := below_of_later hb5
            go_wp2
            go_roundw
            case rel => exact ⟨3, by omega, rfl, H.mono hb5⟩
            case measure => simp [intOf]
        · obtain rfl : k = 3 := by omega
          have k3 := cell_later' (H.c8.cell (j := 0) (v := .int .u64 u.a) rfl); have k4 := cell_later' (H.c8.cell (j := 1) (v := .int .u64 u.b) rfl); have k5 := cell_later' (H.c8.cell (j := 2) (v := .int .u64 u.c) rfl)
          have k0 := cell_later' (H.x.cell (j := 0) (v := .int .u64 x.a) rfl); have k1 := cell_later' (H.x.cell (j := 1) (v := .int .u64 x.b) rfl); have k2 := cell_later' (H.x.cell (j := 2) (v := .int .u64 x.c) rfl)
          have hr : ∀ W : World, Calls Try.prog 29 #[.int .u64 p, .agg #[.int .u64 x.a, .int .u64 x.b, .int .u64 x.c]] W fun e w' => e = .returned (.agg #[.int .u64 u.a, .int .u64 u.b, .int .u64 u.c]) ∧ Below W.heap.size W w' := fun W => by rw [hu.out]; exact rMix_any p x W hx'
          have h3 := eq3_self u.a u.b u.c
          go_wp2_with fail
          refine Rel.wp_region_later_tail 4 Try.mixed (by kernel_rfl) ?_
          simp only [List.take_succ_cons, List.take_zero, List.drop_succ_cons, List.drop_zero]
          repeat (first | go_big_quiet_step (first | (go_at_call 29; exact Calls.later_of (hr _))) | quiet_step (first | (go_at_call 29; exact Calls.later_of (hr _))))
          refine wpQuiet_nil ?_
          intro w6 hb6
          replace hb6 := below_of_later hb6
          go_wp2
          go_ret
          exact ⟨rfl, below2 H.b hb6⟩

set_option maxRecDepth 100000 in
theorem lifted (os : Os) (started : os.Started) (H : Type) (enc : TypeId × Value → H) :
    ReturnsInHanded {} Try.checked os 4 .any (Rows.permutationMixSpec.pre6 enc Try.prog Try.f4 Rows.permutationMixRow.domain false) (Rows.permutationMixSpec.post enc Try.prog Try.f4 false true false false) := by
  refine returnsInHanded_of_change (C := Try.checked) own started (by kernel_rfl) Try.func4
    (ChangeSpec.witness6 (enc := enc) (C := Try.checked) false ⟨#[], #[.int .u64 0, .agg #[.int .u64 0, .int .u64 0, .int .u64 0], .agg #[.int .u64 0, .int .u64 0, .int .u64 0]], []⟩ 8 (by kernel_rfl) (by kernel_rfl) (by kernel_rfl) (by kernel_rfl)) ?_
  intro W base args ds gs before hval0 hW hcnd _
  have hval : ∀ (j : Nat) t v, Try.f4.params[j]? = some t → args[j]? = some v → Value.okWide Try.prog W .any base t v := hval0
  have hW' := hW
  obtain ⟨p, q, hA0, hV, rfl, hfz, hnd⟩ := hW
  have hA : DataW.TrodAll enc Try.prog W 0 (fun _ => true) true Try.f4.params.toList args.toList ds p := hA0
  rw [Try.params4] at hA hval
  obtain ⟨v0, vs0, d0, ds0, p0, q0, hargs, rfl, rfl, h0, r0⟩ := trodAll_cons hA
  obtain ⟨v1, vs1, d1, ds1, p1, q1, rfl, rfl, rfl, h1, r1⟩ := trodAll_cons r0
  obtain ⟨v2, vs2, d2, ds2, p2, q2, rfl, rfl, rfl, h2, r2⟩ := trodAll_cons r1
  obtain ⟨rfl, rfl, rfl⟩ := trodAll_nil r2
  obtain rfl : args = #[v0, v1, v2] := by cases args; simp_all
  obtain ⟨rfl, rfl⟩ := trodVars_none hV
  have k1 := h1
  have k2 := h2
  obtain ⟨a0, rfl, rfl, rfl, w0⟩ := open_int Try.underlying22 (hval 0 22 v0 rfl rfl) h0
  obtain ⟨a1, b1, c1, rfl, rfl, rfl, wa1, wb1, wc1⟩ := open_arr3 Try.underlying26 Try.underlying22 (by kernel_rfl) (by kernel_rfl) (hval 1 26 v1 rfl rfl) h1
  obtain ⟨a2, b2, c2, rfl, rfl, rfl, wa2, wb2, wc2⟩ := open_arr3 Try.underlying26 Try.underlying22 (by kernel_rfl) (by kernel_rfl) (hval 2 26 v2 rfl rfl) h2
  clear hA0 hval0
  simp only [List.append_nil] at hW'
  refine (walk a0 ⟨a1, b1, c1⟩ ⟨a2, b2, c2⟩ W w0 ⟨wf_u64 wa1, wf_u64 wb1, wf_u64 wc1⟩ ⟨wf_u64 wa2, wf_u64 wb2, wf_u64 wc2⟩).mono fun e W' ⟨he, hg⟩ => ?_
  subst he
  exact ⟨_, rfl, post_of_below (pv := []) hW' (fun _ _ _ => (trodAll_cons_mk (shut_bool Try.underlying4 _) trodAll_mk0))
    (fun sp _ hsp => by subst hsp; exact (trodAll_cons_mk (shut_int Try.underlying22 w0) (trodAll_cons_mk (Below.trod Try.laidOut (by kernel_rfl) (of_decide_eq_true (by kernel_rfl)) k1 hg (fun x hx => by cases hx)) (trodAll_cons_mk (Below.trod Try.laidOut (by kernel_rfl) (of_decide_eq_true (by kernel_rfl)) k2 hg (fun x hx => by cases hx)) trodAll_mk0)))) (fun _ _ => rfl) (by simp) hg⟩

theorem closed : joinedFacts Try.prog 4 Try.f4 Rows.permutationMixSpec Rows.permutationMixRow = true := by
  unfold joinedFacts
  rw [Try.mayEnter, Try.liftsFinal, Try.make]
  kernel_rfl

theorem proved : Rows.PermutationMixSaid :=
  OpenClaim.holds_of_wide 4 Try.f4 rfl rfl rfl rfl rfl rfl rfl ⟨rfl, rfl, rfl, rfl, rfl⟩ rfl rfl rfl rfl rfl (by kernel_rfl) Try.func4 closed
    (of_decide_eq_true (by kernel_rfl)) (by unfold Func.isWrapper; first | (rw [if_pos (by decide +kernel)]; kernel_rfl) | (rw [if_neg (by decide +kernel)]; exact ⟨rfl, rfl⟩))
    (fun os started H enc _ => lifted os started H enc)
#print axioms proved
end permutationMix
end Go.Proofs.Ytaklpdhhcnnclaa
