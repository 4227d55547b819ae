/- ExhaustiveSum: Count of a list is the sum of Count of the list with one more element, over all elements. -/
import Derived.Test.YtlgjnidphldiiaaExW
namespace Go.Proofs.Ytlgjnidphldiiaa
open Go.ChangeShapes Go.WideShapes Go.ChangeAt Go.RowKit
namespace exhaustiveSum

theorem cnt_right {P V : Nat} {pub : Int} {R : List Rw} {front : List Int} (hT : tblOk P pub V R = true) (h257 : P ≤ 257) (hl : (front.length : Int) < V) (hF : ∀ u ∈ front, u < (P : Int)) : cntN P pub V R front 10000 = totN P (R.map Rw.val) V front 10000 ∧ cntE P pub V R front 10000 = 0 := by
  have h257N : ¬ (257 : Int) < P := by omega
  have hok : cntOk P pub V R front 10000 = true := by
    unfold cntOk
    rw [hT, decide_eq_true hl, allLt_all (fun k hk => hF _ (getD_mem' hk 0))]
    rfl
  unfold cntN cntE
  rw [hok, if_pos rfl, if_pos rfl, if_neg h257N, if_neg h257N, Int.toNat_natCast, Int.toNat_natCast]
  exact ⟨rfl, rfl⟩

set_option maxRecDepth 10000 in
set_option maxHeartbeats 16000000 in
theorem walk (p pub vars : Int) (ra : Option Addr) (rc : Nat) (R : List Rw) (fa : Option Addr) (fc : Nat) (front : List Int) (w : World)
    (_ : (Lit.int .u64 p).wf = true ∧ (Lit.int .i64 pub).wf = true ∧ (Lit.int .i64 vars).wf = true) (hR : RowsP w ra rc R) (S : SlP w .u64 fa fc front) :
    Calls Try.prog 11 #[.agg #[.int .u64 p, .int .i64 pub, .int .i64 vars, .slice ra R.length rc], .slice fa front.length fc] w fun e w' => e = .returned (.bool true) ∧ Below w.heap.size w w' := by
  have sF := S.sl
  have hF := wfs_u64 S.wf
  have hfl : front.length ≤ 9223372036854775807 := by
    have h1 := S.le
    have h2 := S.max
    simp only [maxLen] at h2
    omega
  have cR := fun W h1 h2 => rRight23_any p pub vars ra R rc fa fc front W h1 h2 hF hfl
  obtain ⟨n, hnl⟩ : ∃ n, front.length = n := ⟨_, rfl⟩
  rw [hnl] at hfl cR
  rw [hnl]
  clear S
  cases hrt : right23 p pub vars R front with
  | false =>
    rw [hrt] at cR
    clear hrt hF
    replace hnl := hide hnl
    replace hfl := hide hfl
    go_enter Try.func11, Try.ntmps11
    go_wp2_with fail
    refine name_calls fun W hN => ?_
    have g0 : Blk W w.heap.size #[.int .u64 p, .int .i64 pub, .int .i64 vars, .slice ra R.length rc] 34 := by rw [hN]; exact Blk.newAt rfl
    have hB : Below w.heap.size w W := by rw [hN]; exact (Below.refl _ _).alloc (Nat.le_refl _) _
    clear hN
    refine (awake23 W).mono ?_
    rintro e w1 ⟨rfl, hb1⟩
    replace g0 := g0.mono hb1
    replace hB := below2 hB hb1
    clear hb1
    have k0 := g0.cell (j := 0) (v := .int .u64 p) rfl; have k1 := g0.cell (j := 1) (v := .int .i64 pub) rfl; have k2 := g0.cell (j := 2) (v := .int .i64 vars) rfl; have k3 := g0.cell (j := 3) (v := .slice ra R.length rc) rfl
    go_wp2_with fail
    refine (cR _ (hR.mono hB) (sF.mono hB)).mono ?_
    rintro e w2 ⟨rfl, hb2⟩
    replace g0 := g0.mono hb2
    replace hB := below2 hB hb2
    clear hb2 k0 k1 k2 k3
    have k0 := g0.cell (j := 0) (v := .int .u64 p) rfl; have k1 := g0.cell (j := 1) (v := .int .i64 pub) rfl; have k2 := g0.cell (j := 2) (v := .int .i64 vars) rfl; have k3 := g0.cell (j := 3) (v := .slice ra R.length rc) rfl
    go_wp2_with fail
    refine (awake23 _).mono ?_
    rintro e wz ⟨rfl, hbz⟩
    replace hB := below2 hB hbz
    clear hbz
    go_wp2
    go_ret
    exact ⟨rfl, hB⟩
  | true =>
    rw [hrt] at cR
    have hrt2 := hrt
    unfold right23 at hrt2
    simp only [Bool.and_eq_true, decide_eq_true_iff] at hrt2
    obtain ⟨⟨hall, hT⟩, hlV⟩ := hrt2
    obtain ⟨hv, hpub, hpv, hvl, hRl⟩ := tbl_bd hT
    have hp := vld_pos hv
    obtain ⟨P, rfl⟩ : ∃ P : Nat, p = (P : Int) := ⟨p.toNat, by omega⟩
    obtain ⟨V, rfl⟩ : ∃ V : Nat, vars = (V : Int) := ⟨vars.toNat, by omega⟩
    rw [hnl] at hlV
    have hnI : (n : Int) ≤ 65536 := by omega
    have hw1 : IntKind.i64.wrap ((n : Int) + 1) = n + 1 := by rw [IntKind.wrap_i64]; omega
    clear hrt hfl
    by_cases hlast : n + 1 < V
    · have hlastI : ¬ (V : Int) ≤ (n : Int) + 1 := by omega
      have cW := fun W h1 => rFew_any P V n pub ra R rc W h1 (by omega) (by omega) (by omega)
      cases hfew : fewB P V n R with
      | false =>
        rw [hfew] at cW
        clear hfew hall hT hv hRl hF
        replace hnl := hide hnl
        go_enter Try.func11, Try.ntmps11
        go_wp2_with fail
        refine name_calls fun W hN => ?_
        have g0 : Blk W w.heap.size #[.int .u64 P, .int .i64 pub, .int .i64 V, .slice ra R.length rc] 34 := by rw [hN]; exact Blk.newAt rfl
        have hB : Below w.heap.size w W := by rw [hN]; exact (Below.refl _ _).alloc (Nat.le_refl _) _
        clear hN
        refine (awake23 W).mono ?_
        rintro e w1 ⟨rfl, hb1⟩
        replace g0 := g0.mono hb1
        replace hB := below2 hB hb1
        clear hb1
        have k0 := g0.cell (j := 0) (v := .int .u64 P) rfl; have k1 := g0.cell (j := 1) (v := .int .i64 pub) rfl; have k2 := g0.cell (j := 2) (v := .int .i64 V) rfl; have k3 := g0.cell (j := 3) (v := .slice ra R.length rc) rfl
        go_wp2_with fail
        refine (cR _ (hR.mono hB) (sF.mono hB)).mono ?_
        rintro e w2 ⟨rfl, hb2⟩
        replace g0 := g0.mono hb2
        replace hB := below2 hB hb2
        clear hb2 k0 k1 k2 k3
        have k0 := g0.cell (j := 0) (v := .int .u64 P) rfl; have k1 := g0.cell (j := 1) (v := .int .i64 pub) rfl; have k2 := g0.cell (j := 2) (v := .int .i64 V) rfl; have k3 := g0.cell (j := 3) (v := .slice ra R.length rc) rfl
        go_wp2_with fail
        refine (cW _ (hR.mono hB)).mono ?_
        rintro e w3 ⟨rfl, hb3⟩
        replace g0 := g0.mono hb3
        replace hB := below2 hB hb3
        clear hb3 k0 k1 k2 k3
        have k0 := g0.cell (j := 0) (v := .int .u64 P) rfl; have k1 := g0.cell (j := 1) (v := .int .i64 pub) rfl; have k2 := g0.cell (j := 2) (v := .int .i64 V) rfl; have k3 := g0.cell (j := 3) (v := .slice ra R.length rc) rfl
        go_wp2_with fail
        refine (awake23 _).mono ?_
        rintro e wz ⟨rfl, hbz⟩
        replace hB := below2 hB hbz
        clear hbz
        go_wp2
        go_ret
        exact ⟨rfl, hB⟩
      | true =>
        rw [hfew] at cW
        have hfew2 := hfew
        unfold fewB at hfew2
        simp only [Bool.and_eq_true, decide_eq_true_iff] at hfew2
        obtain ⟨⟨⟨h257, h6⟩, _⟩, _⟩ := hfew2
        have hFp : ∀ u ∈ front, 0 ≤ u ∧ u < (P : Int) := fun x hx => by
          obtain ⟨k, hk, rfl⟩ := List.mem_iff_getElem.1 hx
          have h2 := of_decide_eq_true hall k hk
          rw [List.getD_eq_getElem?_getD, List.getElem?_eq_getElem hk] at h2
          exact ⟨(hF _ hx).1, h2⟩
        have cC := fun W h1 h2 => Count_any P pub V ra R rc fa fc front 10000 W h1 h2 hF (by omega) ⟨by omega, by omega⟩
        have hc1 := cnt_right hT h257 (by omega) (fun u hu => (hFp u hu).2)
        rw [hc1.1, hc1.2] at cC
        have hFx : ∀ x : Nat, x < P → ∀ u ∈ front ++ [(x : Int)], 0 ≤ u ∧ u < (P : Int) := fun x hx u hu => by
          rcases List.mem_append.1 hu with hu | hu
          · exact hFp u hu
          · rw [List.mem_singleton] at hu; subst hu; omega
        have hlx : ∀ x : Int, (front ++ [x]).length = n + 1 := fun x => by rw [List.length_append, List.length_singleton, hnl]
        have cX := fun (x : Nat) (hx : x < P) W a c h1 h2 => Count_any P pub V ra R rc a c (front ++ [(x : Int)]) 10000 W h1 h2 (fun u hu => ⟨(hFx x hx u hu).1, by have := (hFx x hx u hu).2; omega⟩) (by rw [hlx]; omega) ⟨by omega, by omega⟩
        have hsum := totN_sum (R := R.map Rw.val) (front := front) (p := P) (V := V) (by omega) (by omega) (by rw [hnl]; exact h6)
        have hcx := fun (x : Nat) (hx : x < P) => cnt_right (pub := pub) (R := R) (front := front ++ [(x : Int)]) hT h257 (by rw [hlx]; omega) (fun u hu => (hFx x hx u hu).2)
        have hz : 0 ≤ totN P (R.map Rw.val) V front 10000 ∧ totN P (R.map Rw.val) V front 10000 ≤ 10000 := by unfold totN; split <;> omega
        have hzx : ∀ x : Nat, totN P (R.map Rw.val) V (front ++ [(x : Int)]) 10000 = ((totN P (R.map Rw.val) V (front ++ [(x : Int)]) 10000).toNat : Int) := fun x => by
          rw [Int.toNat_of_nonneg]
          unfold totN; split <;> omega
        obtain ⟨G, hG⟩ : ∃ G : Nat → Nat, G = fun x : Nat => (totN P (R.map Rw.val) V (front ++ [(x : Int)]) 10000).toNat := ⟨_, rfl⟩
        have hGx : ∀ x : Nat, x < P → cntN P pub V R (front ++ [(x : Int)]) 10000 = G x := fun x hx => by rw [(hcx x hx).1, hzx x, hG]
        have hEx : ∀ x : Nat, x < P → cntE P pub V R (front ++ [(x : Int)]) 10000 = 0 := fun x hx => (hcx x hx).2
        rw [show (fun x : Nat => (totN P (R.map Rw.val) V (front ++ [(x : Int)]) 10000).toNat) = G from hG.symm] at hsum
        clear hcx hzx hG hc1 hFx hFp h6 hfew hall hT hv hRl hF
        rw [hnl] at cC
        generalize totN P (R.map Rw.val) V front 10000 = z at *
        have hsl := sF.toG
        replace hnl := hide hnl
        replace hGx := hide hGx
        replace hEx := hide hEx
        replace hlx := hide hlx
        replace hsum := hide hsum
        go_enter Try.func11, Try.ntmps11
        go_wp2_with fail
        refine name_calls fun W hN => ?_
        have g0 : Blk W w.heap.size #[.int .u64 P, .int .i64 pub, .int .i64 V, .slice ra R.length rc] 34 := by rw [hN]; exact Blk.newAt rfl
        have hB : Below w.heap.size w W := by rw [hN]; exact (Below.refl _ _).alloc (Nat.le_refl _) _
        clear hN
        refine (awake23 W).mono ?_
        rintro e w1 ⟨rfl, hb1⟩
        replace g0 := g0.mono hb1
        replace hB := below2 hB hb1
        clear hb1
        have k0 := g0.cell (j := 0) (v := .int .u64 P) rfl; have k1 := g0.cell (j := 1) (v := .int .i64 pub) rfl; have k2 := g0.cell (j := 2) (v := .int .i64 V) rfl; have k3 := g0.cell (j := 3) (v := .slice ra R.length rc) rfl
        go_wp2_with fail
        refine (cR _ (hR.mono hB) (sF.mono hB)).mono ?_
        rintro e w2 ⟨rfl, hb2⟩
        replace g0 := g0.mono hb2
        replace hB := below2 hB hb2
        clear hb2 k0 k1 k2 k3
        have k0 := g0.cell (j := 0) (v := .int .u64 P) rfl; have k1 := g0.cell (j := 1) (v := .int .i64 pub) rfl; have k2 := g0.cell (j := 2) (v := .int .i64 V) rfl; have k3 := g0.cell (j := 3) (v := .slice ra R.length rc) rfl
        go_wp2_with fail
        refine (cW _ (hR.mono hB)).mono ?_
        rintro e w3 ⟨rfl, hb3⟩
        replace g0 := g0.mono hb3
        replace hB := below2 hB hb3
        clear hb3 k0 k1 k2 k3
        have k0 := g0.cell (j := 0) (v := .int .u64 P) rfl; have k1 := g0.cell (j := 1) (v := .int .i64 pub) rfl; have k2 := g0.cell (j := 2) (v := .int .i64 V) rfl; have k3 := g0.cell (j := 3) (v := .slice ra R.length rc) rfl
        go_wp2_with fail
        refine (cC _ (hR.mono hB) (sF.mono hB)).mono ?_
        rintro e w4 ⟨rfl, hb4⟩
        replace g0 := g0.mono hb4
        replace hB := below2 hB hb4
        clear hb4 k0 k1 k2 k3
        have k0 := g0.cell (j := 0) (v := .int .u64 P) rfl; have k1 := g0.cell (j := 1) (v := .int .i64 pub) rfl; have k2 := g0.cell (j := 2) (v := .int .i64 V) rfl; have k3 := g0.cell (j := 3) (v := .slice ra R.length rc) rfl
        go_wp2_with fail
        clear k0 k1 k2 k3 cR cW cC
        go_loopw [7, 8] (fun t7 t8 wr => ∃ x : Nat, x ≤ P ∧ t7 = .int .i64 (sumN x G : Nat) ∧ t8 = .int .u64 x ∧ Below w.heap.size w wr ∧ Blk wr w.heap.size #[.int .u64 P, .int .i64 pub, .int .i64 V, .slice ra R.length rc] 34) (fun _ t8 _ => P - (intOf t8).toNat)
        case atStart => exact ⟨0, Nat.zero_le _, rfl, rfl, hB, g0⟩
        case round =>
          clear g0 hB
          obtain ⟨x, hx, rfl, rfl, hB, g0⟩ := hrel
          have hmono := sumN_mono G hx
          have hzI : ((sumN P G : Nat) : Int) ≤ 10000 := by rw [← hsum.out]; exact hz.2
          have hsx : sumN (x + 1) G = sumN x G + G x := rfl
          obtain ⟨s, hs⟩ : ∃ s, s = sumN x G := ⟨_, rfl⟩
          rw [← hs]
          rw [← hs] at hmono hsx
          have hs0 : s ≤ 10000 := by omega
          have k0 := g0.cell (j := 0) (v := .int .u64 P) rfl; have k1 := g0.cell (j := 1) (v := .int .i64 pub) rfl; have k2 := g0.cell (j := 2) (v := .int .i64 V) rfl; have k3 := g0.cell (j := 3) (v := .slice ra R.length rc) rfl
          by_cases hlt : x < P
          · have hltI : (x : Int) < P := by omega
            have hx0 : (0 : Int) ≤ x := by omega
            have hmono2 := sumN_mono G (show x + 1 ≤ P from hlt)
            rw [hsx] at hmono2
            have cXx := cX x hlt
            rw [hGx.out x hlt, hEx.out x hlt, hlx.out x] at cXx
            have hsx2 : Hid ((s : Int) + (G x : Nat) = (sumN (x + 1) G : Nat)) := hide (by rw [hsx]; omega)
            generalize G x = gx at *
            have hww : IntKind.i64.wrap ((s : Int) + gx) = (s : Int) + gx := by rw [IntKind.wrap_i64]; omega
            clear hsx hmono hmono2
            replace hs := hide hs
            go_wp2_with fail
            refine Rel.region_any Try.mixed fun w7 hb7 => ?_
            replace g0 := g0.mono hb7
            replace hB := below2 hB hb7
            clear hb7 k0 k1 k2 k3
            refine Rel.any_held (fun W => W.cell? ⟨w.heap.size, 0, none⟩ = some (.int .u64 P) ∧ W.cell? ⟨w.heap.size, 1, none⟩ = some (.int .i64 pub) ∧ W.cell? ⟨w.heap.size, 2, none⟩ = some (.int .i64 V) ∧ W.cell? ⟨w.heap.size, 3, none⟩ = some (.slice ra R.length rc)) 12 ⟨g0.cell (j := 0) rfl, g0.cell (j := 1) rfl, g0.cell (j := 2) rfl, g0.cell (j := 3) rfl⟩ fun hH0 => ?_
            refine Rel.heldTake (v := ?_) 0 rfl (by kernel_rfl) (by kernel_rfl) (by kernel_rfl) (fun _ _ _ h => h) (by assumption) (by rfl) ?_ ?_
            rotate_left
            · (intro W hSw; (try dsimp only at hSw); go_simp; try with_reducible rfl)
            try simp only [Act.put, List.setIfInBounds_toArray, List.set_cons_zero, List.set_cons_succ]
            refine Rel.heldTake (v := ?_) 2 rfl (by kernel_rfl) (by kernel_rfl) (by kernel_rfl) (fun _ _ _ h => h) (by assumption) (by rfl) ?_ ?_
            rotate_left
            · (intro W hSw; (try dsimp only at hSw); go_simp; try with_reducible rfl)
            try simp only [Act.put, List.setIfInBounds_toArray, List.set_cons_zero, List.set_cons_succ]
            refine Rel.heldTake (v := ?_) 4 rfl (by kernel_rfl) (by kernel_rfl) (by kernel_rfl) (fun _ _ _ h => h) (by assumption) (by rfl) ?_ ?_
            rotate_left
            · (intro W hSw; (try dsimp only at hSw); go_simp; try with_reducible rfl)
            try simp only [Act.put, List.setIfInBounds_toArray, List.set_cons_zero, List.set_cons_succ]
            have hsW := fun w' (h : Below w7.heap.size w7 w') => hsl.mono (below2 hB h)
            refine Rel.heldFork 1 3 5 (NewE0 w7.heap.size 22) (fun v w => OwnG uL w w7.heap.size 22 v front) (NewB1 w7.heap.size #[.int .u64 x] 22) rfl rfl rfl rfl rfl rfl rfl rfl rfl (by decide) (by kernel_rfl) (by kernel_rfl) (by kernel_rfl) (by kernel_rfl) (by kernel_rfl) ?_ ?_ ?_ (fun _ _ _ => NewE0.keep) (fun _ _ _ => OwnG.mono) (fun _ _ _ => NewB1.keep) (by intro v; go_simp) (by intro v u; go_simp) (by intro v; go_simp) (by intro v u; go_simp) ?_ ?_
            · intro w' hb
              go_simp
              exact rF_newe hb.size _
            · intro w' hb
              go_simp
              exact rF_newb hb.size _ _
            · intro vi w' hb hv
              exact rF_app uL _ _ 54 rfl Try.underlying54 Try.infoU64 rfl (by decide) hb.size hv rfl rfl hnl.out (hsW w' hb) (by have := hnl.out; omega)
            · intro w' hb
              have g := g0.mono hb
              exact ⟨g.cell (j := 0) rfl, g.cell (j := 1) rfl, g.cell (j := 2) rfl, g.cell (j := 3) rfl⟩
            intro v2 v4 v6 w8 hb8 o4 o6
            simp only [Act.put, List.setIfInBounds_toArray, List.set_cons_zero, List.set_cons_succ]
            obtain ⟨b6, rfl, n6, g6⟩ := o6
            have g8 := g0.mono hb8
            have hB8 := below2 hB hb8
            have s6 : SlG uL w8 (some ⟨b6, 0, none⟩) [(x : Int)] := SlG.one g6 rfl
            refine Rel.heldNext 6 rfl (by kernel_rfl) fun K hK => ?_
            refine step_appX uL front [(x : Int)] rfl _ _ 54 rfl w7.heap.size 22 (.int .u64 0) 8 Try.underlying54 Try.infoU64 rfl (by decide) v4 1 1 (some ⟨b6, 0, none⟩) rfl rfl rfl o4 s6 (by have := hnl.out; simp; omega) hb8.size ?_
            intro v' w9 own' hg'
            have g9 := hg'.blk g8 (o4.neq g8 (by decide))
            have hB9 : Below w.heap.size w w9 := hg'.belowG hB8 o4 hB.size hB8.size
            obtain ⟨va', vc', ve', sl', _, _⟩ := Own.sl own'.toU
            rw [hlx.out] at ve'
            subst ve'
            clear own' hg' s6 g6 o4 g8 hB8 hb8 hH0
            refine hK.out _ _ ⟨g9.cell (j := 0) rfl, g9.cell (j := 1) rfl, g9.cell (j := 2) rfl, g9.cell (j := 3) rfl⟩ (fun hH2 => ?_)
            clear hK K
            try simp only [Act.put, List.setIfInBounds_toArray, List.set_cons_zero, List.set_cons_succ]
            refine Rel.heldNext 7 rfl (by kernel_rfl) fun K hK => ?_
            go_simp
            refine (cXx w9 va' vc' (hR.mono hB9) sl').mono ?_
            rintro e wA ⟨rfl, hbA⟩
            have gA := g9.mono hbA
            have hBA := below2 hB9 hbA
            clear cX cXx g0 hB g9 hB9
            refine hK.out _ _ ⟨gA.cell (j := 0) rfl, gA.cell (j := 1) rfl, gA.cell (j := 2) rfl, gA.cell (j := 3) rfl⟩ (fun hH3 => ?_)
            clear hK K
            try simp only [Act.put, List.setIfInBounds_toArray, List.set_cons_zero, List.set_cons_succ]
            refine Rel.heldTake (v := ?_) 8 rfl (by kernel_rfl) (by kernel_rfl) (by kernel_rfl) (fun _ _ _ h => h) (by assumption) (by rfl) ?_ ?_
            rotate_left
            · (intro W hSw; (try dsimp only at hSw); go_simp; try with_reducible rfl)
            try simp only [Act.put, List.setIfInBounds_toArray, List.set_cons_zero, List.set_cons_succ]
            refine Rel.heldTake (v := ?_) 9 rfl (by kernel_rfl) (by kernel_rfl) (by kernel_rfl) (fun _ _ _ h => h) (by assumption) (by rfl) ?_ ?_
            rotate_left
            · (intro W hSw; (try dsimp only at hSw); go_simp; try with_reducible rfl)
            try simp only [Act.put, List.setIfInBounds_toArray, List.set_cons_zero, List.set_cons_succ]
            refine Rel.heldTake (v := ?_) 10 rfl (by kernel_rfl) (by kernel_rfl) (by kernel_rfl) (fun _ _ _ h => h) (by assumption) (by rfl) ?_ ?_
            rotate_left
            · (intro W hSw; (try dsimp only at hSw); go_simp; try with_reducible rfl)
            try simp only [Act.put, List.setIfInBounds_toArray, List.set_cons_zero, List.set_cons_succ]
            refine Rel.heldTake (v := ?_) 11 rfl (by kernel_rfl) (by kernel_rfl) (by kernel_rfl) (fun _ _ _ h => h) (by assumption) (by rfl) ?_ ?_
            rotate_left
            · (intro W hSw; (try dsimp only at hSw); go_simp; try with_reducible rfl)
            try simp only [Act.put, List.setIfInBounds_toArray, List.set_cons_zero, List.set_cons_succ]
            refine Rel.heldLast 12 rfl (by kernel_rfl) rfl (by kernel_rfl) fun K hK => ?_
            go_simp
            refine hK.out _ _ ?_
            clear hK K hH2 hH3
            go_wp2
            go_roundw
            case rel => exact ⟨x + 1, by omega, by rw [hsx2.out], by go_num, hBA, gA⟩
            case measure => simp [intOf]; omega
          · obtain rfl : x = P := by omega
            have hfin : Hid (z = (s : Int)) := hide (by rw [hsum.out, hs])
            replace hs := hide hs
            rw [hfin.out]
            clear hsum hfin
            go_wp2
            go_ret
            exact ⟨rfl, hB⟩
    · have hlastI : (V : Int) ≤ (n : Int) + 1 := by omega
      clear hall hT hv hRl hF
      replace hnl := hide hnl
      go_enter Try.func11, Try.ntmps11
      go_wp2_with fail
      refine name_calls fun W hN => ?_
      have g0 : Blk W w.heap.size #[.int .u64 P, .int .i64 pub, .int .i64 V, .slice ra R.length rc] 34 := by rw [hN]; exact Blk.newAt rfl
      have hB : Below w.heap.size w W := by rw [hN]; exact (Below.refl _ _).alloc (Nat.le_refl _) _
      clear hN
      refine (awake23 W).mono ?_
      rintro e w1 ⟨rfl, hb1⟩
      replace g0 := g0.mono hb1
      replace hB := below2 hB hb1
      clear hb1
      have k0 := g0.cell (j := 0) (v := .int .u64 P) rfl; have k1 := g0.cell (j := 1) (v := .int .i64 pub) rfl; have k2 := g0.cell (j := 2) (v := .int .i64 V) rfl; have k3 := g0.cell (j := 3) (v := .slice ra R.length rc) rfl
      go_wp2_with fail
      refine (cR _ (hR.mono hB) (sF.mono hB)).mono ?_
      rintro e w2 ⟨rfl, hb2⟩
      replace g0 := g0.mono hb2
      replace hB := below2 hB hb2
      clear hb2 k0 k1 k2 k3
      have k0 := g0.cell (j := 0) (v := .int .u64 P) rfl; have k1 := g0.cell (j := 1) (v := .int .i64 pub) rfl; have k2 := g0.cell (j := 2) (v := .int .i64 V) rfl; have k3 := g0.cell (j := 3) (v := .slice ra R.length rc) rfl
      go_wp2_with fail
      refine (awake23 _).mono ?_
      rintro e wz ⟨rfl, hbz⟩
      replace hB := below2 hB hbz
      clear hbz
      go_wp2
      go_ret
      exact ⟨rfl, hB⟩

set_option maxRecDepth 100000 in
theorem lifted (os : Os) (started : os.Started) (H : Type) (enc : TypeId × Value → H) :
    ReturnsInHanded {} Try.checked os 11 .any (Rows.exhaustiveSumSpec.pre6 enc Try.prog Try.f11 Rows.exhaustiveSumRow.domain false) (Rows.exhaustiveSumSpec.post enc Try.prog Try.f11 false true false false) := by
  refine returnsInHanded_of_change (C := Try.checked) own started (by kernel_rfl) Try.func11
    (ChangeSpec.witness6 (enc := enc) (C := Try.checked) false ⟨#[], #[.agg #[.int .u64 0, .int .i64 0, .int .i64 0, .slice none 0 0], .slice none 0 0], []⟩ 8 (by kernel_rfl) (by kernel_rfl) (by kernel_rfl) (by kernel_rfl)) ?_
  intro W base args ds gs before hval0 hW hcnd _
  have hval : ∀ (j : Nat) t v, Try.f11.params[j]? = some t → args[j]? = some v → Value.okWide Try.prog W .any base t v := hval0
  have hW' := hW
  obtain ⟨p, q, hA0, hV, rfl, hfz, hnd⟩ := hW
  have hA : DataW.TrodAll enc Try.prog W 0 (fun _ => true) true Try.f11.params.toList args.toList ds p := hA0
  rw [Try.params11] at hA hval
  obtain ⟨v0, vs0, d0, ds0, p0, q0, hargs, rfl, rfl, h0, r0⟩ := trodAll_cons hA
  obtain ⟨v1, vs1, d1, ds1, p1, q1, rfl, rfl, rfl, h1, r1⟩ := trodAll_cons r0
  obtain ⟨rfl, rfl, rfl⟩ := trodAll_nil r1
  obtain rfl : args = #[v0, v1] := by cases args; simp_all
  obtain ⟨rfl, rfl⟩ := trodVars_none hV
  have k0 := h0
  have k1 := h1
  obtain ⟨p0, pub0, vars0, ra0, rc0, R0, rfl, wc0, hR0⟩ := open_tbl h0 (hval 0 34 v0 rfl rfl)
  obtain ⟨ad1, cap1, xs1, rfl, S1⟩ := open_slice Try.underlying54 Try.underlying22 (by kernel_rfl) h1 (hval 1 54 v1 rfl rfl) (fun x hx => hW'.lt x (by simp [hx]))
  clear hA0 hval0
  simp only [List.append_nil] at hW'
  refine (walk p0 pub0 vars0 ra0 rc0 R0 ad1 cap1 xs1 W wc0 hR0 S1).mono fun e W' ⟨he, hg⟩ => ?_
  subst he
  exact ⟨_, rfl, post_of_below (pv := []) hW' (fun _ _ _ => (trodAll_cons_mk (shut_bool Try.underlying4 _) trodAll_mk0))
    (fun sp _ hsp => by subst hsp; exact (trodAll_cons_mk (Below.trod Try.laidOut (by kernel_rfl) (of_decide_eq_true (by kernel_rfl)) k0 hg (fun x hx => hW'.lt x (by simp [hx]))) (trodAll_cons_mk (Below.trod Try.laidOut (by kernel_rfl) (of_decide_eq_true (by kernel_rfl)) k1 hg (fun x hx => hW'.lt x (by simp [hx]))) trodAll_mk0))) (fun _ _ => rfl) (by simp) hg⟩

theorem closed : joinedFacts Try.prog 11 Try.f11 Rows.exhaustiveSumSpec Rows.exhaustiveSumRow = true := by
  unfold joinedFacts
  rw [Try.mayEnter, Try.liftsFinal, Try.make]
  kernel_rfl

theorem proved : Rows.ExhaustiveSumSaid :=
  OpenClaim.holds_of_wide 11 Try.f11 rfl rfl rfl rfl rfl rfl rfl ⟨rfl, rfl, rfl, rfl, rfl⟩ rfl rfl rfl rfl rfl (by kernel_rfl) Try.func11 closed
    (of_decide_eq_true (by kernel_rfl)) (by unfold Func.isWrapper; first | (rw [if_pos (by decide +kernel)]; kernel_rfl) | (rw [if_neg (by decide +kernel)]; exact ⟨rfl, rfl⟩))
    (fun os started H enc _ => lifted os started H enc)
#print axioms proved
end exhaustiveSum
end Go.Proofs.Ytlgjnidphldiiaa
