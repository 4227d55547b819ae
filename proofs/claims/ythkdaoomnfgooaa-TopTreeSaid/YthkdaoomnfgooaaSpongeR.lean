/- The walk of the reference's absorbing. -/
import Derived.Test.YthkdaoomnfgooaaSponge
namespace Go.Proofs.Ythkdaoomnfgooaa
open Go.RowKit

set_option maxRecDepth 10000 in
set_option maxHeartbeats 4000000 in
theorem rAbsorb_any (p lb : Int) (ad : Option Addr) (c : Nat) (xs : List Int) (w : World) (l0 : 0 ≤ lb) (l1 : lb < 18446744073709551616) (hs : Sl w .u64 ad xs) (hw : AllW xs) (hl : xs.length < 1099511627776) :
    Calls Try.prog 71 #[.int .u64 p, .int .u64 lb, .slice ad xs.length c] w fun e w' => e = .returned (.agg #[.int .u64 (absorb p lb xs).a, .int .u64 (absorb p lb xs).b, .int .u64 (absorb p lb xs).c]) ∧ Below w.heap.size w w' := by
  obtain ⟨R, hR⟩ : ∃ R, R = absorb p lb xs := ⟨_, rfl⟩
  rw [← hR]
  obtain ⟨s0, hs0⟩ : ∃ s0, s0 = absI p lb xs.length := ⟨_, rfl⟩
  have hW0 : W3 s0 := by rw [hs0]; exact absI_W3 _ _ _
  replace hR : absF p xs 0 s0 = R := by rw [hR, hs0]; rfl
  have m0 := fmul_bd p lb 65536
  obtain ⟨n, hn⟩ : ∃ n : Int, n = xs.length := ⟨_, rfl⟩
  have n0 : 0 ≤ n := by omega
  have n1 : n < 1099511627776 := by omega
  have sa : s0.a = 0 := by rw [hs0]; rfl
  have sb : s0.b = 0 := by rw [hs0]; rfl
  have sc : fadd p (fmul p lb 65536) n = s0.c := by rw [hs0, hn]; rfl
  have hcv : IntKind.u64.wrap (xs.length : Int) = n := by rw [IntKind.wrap_u64]; omega
  replace hR := hide hR
  clear hs0 hn
  go_enter Try.func71, Try.ntmps71
  go_wp2_with fail
  refine name_calls fun W hW => ?_
  have g0 : Blk W w.heap.size (A3 ⟨0, 0, 0⟩) 95 := by rw [hW]; exact Blk.newAt rfl
  have hB : Below w.heap.size w W := by rw [hW]; exact (Below.refl _ _).alloc (Nat.le_refl _) _
  clear hW
  refine (rMul_any p lb 65536 _ (by omega) (by omega) (by omega) (by omega)).mono ?_
  rintro e1 w1 ⟨rfl, hb1⟩
  replace hB := below2 hB hb1
  replace g0 := g0.mono hb1
  clear hb1
  go_wp2_with fail
  refine (rAdd_any p (fmul p lb 65536) n _ (by omega) (by omega) (by omega) (by omega)).mono ?_
  rintro e1 w2 ⟨rfl, hb1⟩
  replace hB := below2 hB hb1
  replace g0 := g0.mono hb1
  have l0 := g0.lt
  clear hb1 hcv
  have H : AS false p w (w2.alloc (.cells #[.int .u64 0, .int .u64 0, .int .u64 s0.c] 95)) 0 w2.heap.size s0 := by
    refine ⟨g0.alloc _, fun h => (by cases h), ?_, hB.alloc (by omega) _, l0, by omega⟩
    have : A3 s0 = #[.int .u64 0, .int .u64 0, .int .u64 s0.c] := by rw [A3, sa, sb]
    rw [this]
    exact Blk.newAt rfl
  clear sa sb m0 g0 hB l0
  go_wp2_with fail
  clear sc
  generalize w2.heap.size = bs at *
  go_loopw [8] (fun t8 wr => ∃ i : Nat, i ≤ xs.length + 2 ∧ t8 = .int .i64 i ∧ ∃ s, W3 s ∧ AS false p w wr 0 bs s ∧ Hid (absF p xs i s = R)) (fun t8 _ => xs.length + 2 - (intOf t8).toNat)
  case atStart => exact ⟨0, by omega, rfl, s0, hW0, H, hR⟩
  case round =>
    obtain ⟨i, hi, rfl, s, sW, G, hG⟩ := hrel
    clear H hR
    by_cases hlt : i < xs.length
    · obtain ⟨b, off, rfl, hbl, hc⟩ := (hs.mono G.b).get hlt
      obtain ⟨x0, x1⟩ := hw.get hlt
      obtain ⟨x, hx⟩ : ∃ x, x = xs.getD i 0 := ⟨_, rfl⟩
      rw [← hx] at hc x0 x1
      have k1 := cell_later' (G.st.cell (j := 0) (v := .int .u64 s.a) rfl)
      have k2 := cell_later' hc
      obtain ⟨⟨s1, s2⟩, ⟨s3, s4⟩, s5⟩ := sW
      have y' := G.st.cell (j := 0) (v := .int .u64 s.a) rfl
      obtain hz | hz : i = 0 ∨ i ≠ 0 := by omega
      · have hg : ((i : Int) == 0) = true := by simpa using hz
        replace hz := hide hz
        by_cases h2 : i + 1 < xs.length
        · obtain ⟨y0, y1⟩ := hw.get h2
          obtain ⟨y, hy⟩ : ∃ y, y = xs.getD (i + 1) 0 := ⟨_, rfl⟩
          have hst := absF_two p xs i s h2
          rw [← hx, ← hy, hG.out] at hst
          obtain ⟨s', hs'⟩ : ∃ s' : T3, s' = ⟨fadd p s.a x, fadd p s.b y, s.c⟩ := ⟨_, rfl⟩
          have sW' : W3 s' := by rw [hs']; exact ⟨fadd_bd _ _ _, fadd_bd _ _ _, s5⟩
          have pW' : W3 (permute p s') := permute_W3 p s' sW'
          have ea : fadd p s.a x = s'.a := by rw [hs']
          have eb : fadd p s.b y = s'.b := by rw [hs']
          have ec : s'.c = s.c := by rw [hs']
          rw [← hs'] at hst
          have hP : ∀ W : World, Calls Try.prog 79 #[.int .u64 p, .agg #[.int .u64 s'.a, .int .u64 s'.b, .int .u64 s.c]] W fun e w' => e = .returned (.agg #[.int .u64 (permute p s').a, .int .u64 (permute p s').b, .int .u64 (permute p s').c]) ∧ Below W.heap.size W w' := fun W => by rw [← ec]; exact rPermute_any p s' W sW'
          obtain ⟨q, hq⟩ : ∃ q, q = permute p s' := ⟨_, rfl⟩
          rw [← hq] at hst hP pW'
          have Hst := hide hst.symm
          clear hq
          rw [← hy] at y0 y1
          replace hy := hide hy
          clear hst hs' hx hG y'
          go_wp2_with fail
          refine Rel.wp_region_later_tail 8 Try.mixed (by kernel_rfl) ?_
          simp only [List.take_succ_cons, List.take_zero, List.drop_succ_cons, List.drop_zero]
          repeat (first | go_big_quiet_step (first | (go_at_call 77; exact Calls.later_of (rAdd_any _ _ _ _ (by omega) (by omega) (by omega) (by omega)))) | quiet_step (first | (go_at_call 77; exact Calls.later_of (rAdd_any _ _ _ _ (by omega) (by omega) (by omega) (by omega)))))
          refine wpQuiet_nil ?_
          intro w3 hb3
          replace hb3 := below_of_later hb3
          replace G := G.mono hb3
          have y' := G.st.cell (j := 0) (v := .int .u64 s.a) rfl
          have f := G.st.free
          clear k1 k2 hb3
          go_wp2_with fail
          refine name_world fun W2 hW2 => ?_
          have G2 : AS false p w W2 0 bs ⟨s'.a, s.b, s.c⟩ := by rw [hW2]; exact G.set 0 _ rfl
          clear hW2 y' f G
          obtain ⟨b', off', hbb, _, hc'⟩ := (hs.mono G2.b).get h2
          cases hbb
          rw [← hy.out] at hc'
          have k1 := cell_later' (G2.st.cell (j := 1) (v := .int .u64 s.b) rfl)
          have k2 := cell_later' hc'
          refine Rel.wp_region_later_tail 9 Try.mixed (by kernel_rfl) ?_
          simp only [List.take_succ_cons, List.take_zero, List.drop_succ_cons, List.drop_zero]
          repeat (first | go_big_quiet_step (first | (go_at_call 77; exact Calls.later_of (rAdd_any _ _ _ _ (by omega) (by omega) (by omega) (by omega)))) | quiet_step (first | (go_at_call 77; exact Calls.later_of (rAdd_any _ _ _ _ (by omega) (by omega) (by omega) (by omega)))))
          refine wpQuiet_nil ?_
          intro w4 hb4
          replace hb4 := below_of_later hb4
          replace G2 := G2.mono hb4
          have c0 := G2.st.cell (j := 0) (v := .int .u64 s'.a) rfl; have c1 := G2.st.cell (j := 1) (v := .int .u64 s.b) rfl; have c2 := G2.st.cell (j := 2) (v := .int .u64 s.c) rfl
          have f := G2.st.free
          have G3 : AS false p w (w4.setCell ⟨bs, 1, none⟩ (.int .u64 s'.b)) 0 bs s' := by
            refine G2.set 1 _ ?_
            have : A3 s' = #[.int .u64 s'.a, .int .u64 s'.b, .int .u64 s.c] := by rw [A3, ec]
            rw [this]
            rfl
          clear k1 k2 hb4 G2
          go_wp2_with fail
          refine name_calls fun W3' hW3 => ?_
          clear c0 c1 c2 f ec
          rw [← hW3] at G3
          refine (hP W3').mono ?_
          clear hW3
          rintro e w5 ⟨rfl, hb5⟩
          replace G3 := G3.mono hb5
          clear hb5
          have c0 := G3.st.cell (j := 0) (v := .int .u64 s'.a) rfl; have c1 := G3.st.cell (j := 1) (v := .int .u64 s'.b) rfl; have c2 := G3.st.cell (j := 2) (v := .int .u64 s'.c) rfl
          have f5 := G3.st.free
          go_wp2
          go_roundw
          case rel => exact ⟨i + 2, by omega, by go_num, q, pW', G3.set3, Hst⟩
          case measure => simp [intOf]; omega
        · have hst := absF_one p xs i s hlt h2
          rw [← hx, hG.out] at hst
          obtain ⟨s', hs'⟩ : ∃ s' : T3, s' = ⟨fadd p s.a x, s.b, s.c⟩ := ⟨_, rfl⟩
          have sW' : W3 s' := by rw [hs']; exact ⟨fadd_bd _ _ _, ⟨s3, s4⟩, s5⟩
          have pW' : W3 (permute p s') := permute_W3 p s' sW'
          have ea : fadd p s.a x = s'.a := by rw [hs']
          have eb : s'.b = s.b := by rw [hs']
          have ec : s'.c = s.c := by rw [hs']
          rw [← hs'] at hst
          have hP : ∀ W : World, Calls Try.prog 79 #[.int .u64 p, .agg #[.int .u64 s'.a, .int .u64 s.b, .int .u64 s.c]] W fun e w' => e = .returned (.agg #[.int .u64 (permute p s').a, .int .u64 (permute p s').b, .int .u64 (permute p s').c]) ∧ Below W.heap.size W w' := fun W => by rw [← ec, ← eb]; exact rPermute_any p s' W sW'
          obtain ⟨q, hq⟩ : ∃ q, q = permute p s' := ⟨_, rfl⟩
          rw [← hq] at hst hP pW'
          have Hst := hide hst.symm
          clear hq hst hs' hx hG y'
          go_wp2_with fail
          refine Rel.wp_region_later_tail 8 Try.mixed (by kernel_rfl) ?_
          simp only [List.take_succ_cons, List.take_zero, List.drop_succ_cons, List.drop_zero]
          repeat (first | go_big_quiet_step (first | (go_at_call 77; exact Calls.later_of (rAdd_any _ _ _ _ (by omega) (by omega) (by omega) (by omega)))) | quiet_step (first | (go_at_call 77; exact Calls.later_of (rAdd_any _ _ _ _ (by omega) (by omega) (by omega) (by omega)))))
          refine wpQuiet_nil ?_
          intro w3 hb3
          replace hb3 := below_of_later hb3
          replace G := G.mono hb3
          have c0 := G.st.cell (j := 0) (v := .int .u64 s.a) rfl; have c1 := G.st.cell (j := 1) (v := .int .u64 s.b) rfl; have c2 := G.st.cell (j := 2) (v := .int .u64 s.c) rfl
          have f := G.st.free
          have G3 : AS false p w (w3.setCell ⟨bs, 0, none⟩ (.int .u64 s'.a)) 0 bs s' := by
            refine G.set 0 _ ?_
            have : A3 s' = #[.int .u64 s'.a, .int .u64 s.b, .int .u64 s.c] := by rw [A3, ec, eb]
            rw [this]
            rfl
          clear k1 k2 hb3 G
          go_wp2_with fail
          refine name_calls fun W3' hW3 => ?_
          clear c0 c1 c2 f ec eb
          rw [← hW3] at G3
          refine (hP W3').mono ?_
          clear hW3
          rintro e w5 ⟨rfl, hb5⟩
          replace G3 := G3.mono hb5
          clear hb5
          have c0 := G3.st.cell (j := 0) (v := .int .u64 s'.a) rfl; have c1 := G3.st.cell (j := 1) (v := .int .u64 s'.b) rfl; have c2 := G3.st.cell (j := 2) (v := .int .u64 s'.c) rfl
          have f5 := G3.st.free
          go_wp2
          go_roundw
          case rel => exact ⟨i + 2, by omega, by go_num, q, pW', G3.set3, Hst⟩
          case measure => simp [intOf]; omega

      · have hg : ((i : Int) == 0) = false := by simpa using hz
        replace hz := hide hz
        by_cases h2 : i + 1 < xs.length
        · obtain ⟨y0, y1⟩ := hw.get h2
          obtain ⟨y, hy⟩ : ∃ y, y = xs.getD (i + 1) 0 := ⟨_, rfl⟩
          have hst := absF_two p xs i s h2
          rw [← hx, ← hy, hG.out] at hst
          obtain ⟨s', hs'⟩ : ∃ s' : T3, s' = ⟨fadd p s.a x, fadd p s.b y, s.c⟩ := ⟨_, rfl⟩
          have sW' : W3 s' := by rw [hs']; exact ⟨fadd_bd _ _ _, fadd_bd _ _ _, s5⟩
          have pW' : W3 (permute p s') := permute_W3 p s' sW'
          have ea : fadd p s.a x = s'.a := by rw [hs']
          have eb : fadd p s.b y = s'.b := by rw [hs']
          have ec : s'.c = s.c := by rw [hs']
          rw [← hs'] at hst
          have hP : ∀ W : World, Calls Try.prog 79 #[.int .u64 p, .agg #[.int .u64 s'.a, .int .u64 s'.b, .int .u64 s.c]] W fun e w' => e = .returned (.agg #[.int .u64 (permute p s').a, .int .u64 (permute p s').b, .int .u64 (permute p s').c]) ∧ Below W.heap.size W w' := fun W => by rw [← ec]; exact rPermute_any p s' W sW'
          obtain ⟨q, hq⟩ : ∃ q, q = permute p s' := ⟨_, rfl⟩
          rw [← hq] at hst hP pW'
          have Hst := hide hst.symm
          clear hq
          rw [← hy] at y0 y1
          replace hy := hide hy
          clear hst hs' hx hG y'
          go_wp2_with fail
          refine Rel.wp_region_later_tail 8 Try.mixed (by kernel_rfl) ?_
          simp only [List.take_succ_cons, List.take_zero, List.drop_succ_cons, List.drop_zero]
          repeat (first | go_big_quiet_step (first | (go_at_call 77; exact Calls.later_of (rAdd_any _ _ _ _ (by omega) (by omega) (by omega) (by omega)))) | quiet_step (first | (go_at_call 77; exact Calls.later_of (rAdd_any _ _ _ _ (by omega) (by omega) (by omega) (by omega)))))
          refine wpQuiet_nil ?_
          intro w3 hb3
          replace hb3 := below_of_later hb3
          replace G := G.mono hb3
          have y' := G.st.cell (j := 0) (v := .int .u64 s.a) rfl
          have f := G.st.free
          clear k1 k2 hb3
          go_wp2_with fail
          refine name_world fun W2 hW2 => ?_
          have G2 : AS false p w W2 0 bs ⟨s'.a, s.b, s.c⟩ := by rw [hW2]; exact G.set 0 _ rfl
          clear hW2 y' f G
          obtain ⟨b', off', hbb, _, hc'⟩ := (hs.mono G2.b).get h2
          cases hbb
          rw [← hy.out] at hc'
          have k1 := cell_later' (G2.st.cell (j := 1) (v := .int .u64 s.b) rfl)
          have k2 := cell_later' hc'
          refine Rel.wp_region_later_tail 9 Try.mixed (by kernel_rfl) ?_
          simp only [List.take_succ_cons, List.take_zero, List.drop_succ_cons, List.drop_zero]
          repeat (first | go_big_quiet_step (first | (go_at_call 77; exact Calls.later_of (rAdd_any _ _ _ _ (by omega) (by omega) (by omega) (by omega)))) | quiet_step (first | (go_at_call 77; exact Calls.later_of (rAdd_any _ _ _ _ (by omega) (by omega) (by omega) (by omega)))))
          refine wpQuiet_nil ?_
          intro w4 hb4
          replace hb4 := below_of_later hb4
          replace G2 := G2.mono hb4
          have c0 := G2.st.cell (j := 0) (v := .int .u64 s'.a) rfl; have c1 := G2.st.cell (j := 1) (v := .int .u64 s.b) rfl; have c2 := G2.st.cell (j := 2) (v := .int .u64 s.c) rfl
          have f := G2.st.free
          have G3 : AS false p w (w4.setCell ⟨bs, 1, none⟩ (.int .u64 s'.b)) 0 bs s' := by
            refine G2.set 1 _ ?_
            have : A3 s' = #[.int .u64 s'.a, .int .u64 s'.b, .int .u64 s.c] := by rw [A3, ec]
            rw [this]
            rfl
          clear k1 k2 hb4 G2
          go_wp2_with fail
          refine name_calls fun W3' hW3 => ?_
          clear c0 c1 c2 f ec
          rw [← hW3] at G3
          refine (hP W3').mono ?_
          clear hW3
          rintro e w5 ⟨rfl, hb5⟩
          replace G3 := G3.mono hb5
          clear hb5
          have c0 := G3.st.cell (j := 0) (v := .int .u64 s'.a) rfl; have c1 := G3.st.cell (j := 1) (v := .int .u64 s'.b) rfl; have c2 := G3.st.cell (j := 2) (v := .int .u64 s'.c) rfl
          have f5 := G3.st.free
          go_wp2
          go_roundw
          case rel => exact ⟨i + 2, by omega, by go_num, q, pW', G3.set3, Hst⟩
          case measure => simp [intOf]; omega
        · have hst := absF_one p xs i s hlt h2
          rw [← hx, hG.out] at hst
          obtain ⟨s', hs'⟩ : ∃ s' : T3, s' = ⟨fadd p s.a x, s.b, s.c⟩ := ⟨_, rfl⟩
          have sW' : W3 s' := by rw [hs']; exact ⟨fadd_bd _ _ _, ⟨s3, s4⟩, s5⟩
          have pW' : W3 (permute p s') := permute_W3 p s' sW'
          have ea : fadd p s.a x = s'.a := by rw [hs']
          have eb : s'.b = s.b := by rw [hs']
          have ec : s'.c = s.c := by rw [hs']
          rw [← hs'] at hst
          have hP : ∀ W : World, Calls Try.prog 79 #[.int .u64 p, .agg #[.int .u64 s'.a, .int .u64 s.b, .int .u64 s.c]] W fun e w' => e = .returned (.agg #[.int .u64 (permute p s').a, .int .u64 (permute p s').b, .int .u64 (permute p s').c]) ∧ Below W.heap.size W w' := fun W => by rw [← ec, ← eb]; exact rPermute_any p s' W sW'
          obtain ⟨q, hq⟩ : ∃ q, q = permute p s' := ⟨_, rfl⟩
          rw [← hq] at hst hP pW'
          have Hst := hide hst.symm
          clear hq hst hs' hx hG y'
          go_wp2_with fail
          refine Rel.wp_region_later_tail 8 Try.mixed (by kernel_rfl) ?_
          simp only [List.take_succ_cons, List.take_zero, List.drop_succ_cons, List.drop_zero]
          repeat (first | go_big_quiet_step (first | (go_at_call 77; exact Calls.later_of (rAdd_any _ _ _ _ (by omega) (by omega) (by omega) (by omega)))) | quiet_step (first | (go_at_call 77; exact Calls.later_of (rAdd_any _ _ _ _ (by omega) (by omega) (by omega) (by omega)))))
          refine wpQuiet_nil ?_
          intro w3 hb3
          replace hb3 := below_of_later hb3
          replace G := G.mono hb3
          have c0 := G.st.cell (j := 0) (v := .int .u64 s.a) rfl; have c1 := G.st.cell (j := 1) (v := .int .u64 s.b) rfl; have c2 := G.st.cell (j := 2) (v := .int .u64 s.c) rfl
          have f := G.st.free
          have G3 : AS false p w (w3.setCell ⟨bs, 0, none⟩ (.int .u64 s'.a)) 0 bs s' := by
            refine G.set 0 _ ?_
            have : A3 s' = #[.int .u64 s'.a, .int .u64 s.b, .int .u64 s.c] := by rw [A3, ec, eb]
            rw [this]
            rfl
          clear k1 k2 hb3 G
          go_wp2_with fail
          refine name_calls fun W3' hW3 => ?_
          clear c0 c1 c2 f ec eb
          rw [← hW3] at G3
          refine (hP W3').mono ?_
          clear hW3
          rintro e w5 ⟨rfl, hb5⟩
          replace G3 := G3.mono hb5
          clear hb5
          have c0 := G3.st.cell (j := 0) (v := .int .u64 s'.a) rfl; have c1 := G3.st.cell (j := 1) (v := .int .u64 s'.b) rfl; have c2 := G3.st.cell (j := 2) (v := .int .u64 s'.c) rfl
          have f5 := G3.st.free
          go_wp2
          go_roundw
          case rel => exact ⟨i + 2, by omega, by go_num, q, pW', G3.set3, Hst⟩
          case measure => simp [intOf]; omega

    · by_cases hz : i = 0
      · have hg : ((i : Int) == 0) = true := by simpa using hz
        have h2 : ¬ i + 1 < xs.length := by omega
        have hne : xs = [] := List.eq_nil_of_length_eq_zero (by omega)
        have hst : permute p s = R := by rw [← hG.out, hz, absF_none p xs s hne]
        have hP : ∀ W : World, Calls Try.prog 79 #[.int .u64 p, .agg #[.int .u64 s.a, .int .u64 s.b, .int .u64 s.c]] W fun e w' => e = .returned (.agg #[.int .u64 R.a, .int .u64 R.b, .int .u64 R.c]) ∧ Below W.heap.size W w' := fun W => by rw [← hst]; exact rPermute_any p s W sW
        have RW : W3 R := by rw [← hst]; exact permute_W3 p s sW
        have hR : Hid (absF p xs (i + 2) R = R) := hide (absF_end p xs (i + 2) R (by omega) (by omega))
        replace hz := hide hz
        clear hst hG hne
        have c0 := G.st.cell (j := 0) (v := .int .u64 s.a) rfl; have c1 := G.st.cell (j := 1) (v := .int .u64 s.b) rfl; have c2 := G.st.cell (j := 2) (v := .int .u64 s.c) rfl
        go_wp2_with fail
        refine (hP _).mono ?_
        rintro ew5 w5 ⟨rfl, hb5⟩
        replace G := G.mono hb5
        clear hb5 c0 c1 c2
        have c0 := G.st.cell (j := 0) (v := .int .u64 s.a) rfl; have c1 := G.st.cell (j := 1) (v := .int .u64 s.b) rfl; have c2 := G.st.cell (j := 2) (v := .int .u64 s.c) rfl
        have f5 := G.st.free
        go_wp2
        go_roundw
        case rel => exact ⟨i + 2, by have := hz.out; omega, by go_num, R, RW, G.set3, hR⟩
        case measure => have := hz.out; simp [intOf]; omega
      · have hg : ((i : Int) == 0) = false := by simpa using hz
        have hRs : s = R := by rw [← hG.out, absF_end p xs i s (by omega) (by omega)]
        subst hRs
        have c0 := G.st.cell (j := 0) (v := .int .u64 s.a) rfl; have c1 := G.st.cell (j := 1) (v := .int .u64 s.b) rfl; have c2 := G.st.cell (j := 2) (v := .int .u64 s.c) rfl
        have y0 := G.res.cell (j := 0) (v := .int .u64 0) rfl
        have y1 := G.res.cell (j := 1) (v := .int .u64 0) rfl
        have y2 := G.res.cell (j := 2) (v := .int .u64 0) rfl
        have f := G.res.free
        go_wp2
        exact bodyPost_ret (v := .agg #[.int .u64 s.a, .int .u64 s.b, .int .u64 s.c]) (by simp [results, Try.results71, go_sem, y0, y1, y2]) rfl ⟨rfl, G.end_ _ _ _⟩

end Go.Proofs.Ythkdaoomnfgooaa
