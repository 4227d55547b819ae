/- ExhaustiveCount: Count returns the specified number, or the specified error. -/
import Derived.Test.YtlgjnidphldiiaaExW
namespace Go.Proofs.Ytlgjnidphldiiaa
open Go.ChangeShapes Go.WideShapes Go.ChangeAt Go.RowKit
namespace exhaustiveCount

set_option maxRecDepth 10000 in
set_option maxHeartbeats 16000000 in
theorem walk (p pub vars : Int) (ra : Option Addr) (rc : Nat) (R : List Rw) (fa : Option Addr) (fc : Nat) (front : List Int) (most : Int) (w : World)
    (_ : (Lit.int .u64 p).wf = true ∧ (Lit.int .i64 pub).wf = true ∧ (Lit.int .i64 vars).wf = true) (hR : RowsP w ra rc R) (S : SlP w .u64 fa fc front) (hm : (Lit.int .i64 most).wf = true) :
    Calls Try.prog 10 #[.agg #[.int .u64 p, .int .i64 pub, .int .i64 vars, .slice ra R.length rc], .slice fa front.length fc, .int .i64 most] w fun e w' => e = .returned (.bool true) ∧ Below w.heap.size w w' := by
  obtain ⟨hm1, hm2⟩ := wf_i hm
  have sF := S.sl
  have hF := wfs_u64 S.wf
  have hfl : front.length ≤ 9223372036854775807 := by
    have h1 := S.le
    have h2 := S.max
    simp only [maxLen] at h2
    omega
  have cS := fun W h => tSmall_any p pub vars ra R rc W h
  have cR := fun W h1 h2 => rRight23_any p pub vars ra R rc fa fc front W h1 h2 hF hfl
  have cC := fun W h1 h2 => Count_any p pub vars ra R rc fa fc front most W h1 h2 hF (by omega) ⟨hm1, hm2⟩
  have hres : (right23 p pub vars R front && decide (0 ≤ most)) = cntOk p pub vars R front most := by
    unfold right23 cntOk
    cases allLt p front <;> cases tblOk p pub vars R <;> simp
  obtain ⟨n, hnl⟩ : ∃ n, front.length = n := ⟨_, rfl⟩
  rw [hnl] at hfl cR cC
  rw [hnl]
  clear hm S
  cases hsm : smT R with
  | false =>
    rw [hsm] at cS
    clear hsm cR cC hres hF
    replace hnl := hide hnl
    go_enter Try.func10, Try.ntmps10
    go_wp2_with fail
    refine name_calls fun W hN => ?_
    have g0 : Blk W w.heap.size #[.int .u64 p, .int .i64 pub, .int .i64 vars, .slice ra R.length rc] 34 := by rw [hN]; exact Blk.newAt rfl
    have hB : Below w.heap.size w W := by rw [hN]; exact (Below.refl _ _).alloc (Nat.le_refl _) _
    clear hN
    refine (awake23 W).mono ?_
    rintro e w1 ⟨rfl, hb1⟩
    replace g0 := g0.mono hb1
    replace hB := below2 hB hb1
    clear hb1
    have k0 := g0.cell (j := 0) (v := .int .u64 p) rfl; have k1 := g0.cell (j := 1) (v := .int .i64 pub) rfl; have k2 := g0.cell (j := 2) (v := .int .i64 vars) rfl; have k3 := g0.cell (j := 3) (v := .slice ra R.length rc) rfl
    go_wp2_with fail
    refine (cS _ (hR.mono hB)).mono ?_
    rintro e w2 ⟨rfl, hb2⟩
    replace g0 := g0.mono hb2
    replace hB := below2 hB hb2
    clear hb2 k0 k1 k2 k3
    have k0 := g0.cell (j := 0) (v := .int .u64 p) rfl; have k1 := g0.cell (j := 1) (v := .int .i64 pub) rfl; have k2 := g0.cell (j := 2) (v := .int .i64 vars) rfl; have k3 := g0.cell (j := 3) (v := .slice ra R.length rc) rfl
    go_wp2_with fail
    refine (awake23 _).mono ?_
    rintro e wz ⟨rfl, hbz⟩
    replace hB := below2 hB hbz
    clear hbz
    go_wp2
    go_ret
    exact ⟨rfl, hB⟩
  | true =>
    rw [hsm] at cS
    replace hsm := hide hsm
    by_cases h300 : 300 < n
    · have h300I : (300 : Int) < n := by omega
      clear cR cC hres hF
      replace hnl := hide hnl
      go_enter Try.func10, Try.ntmps10
      go_wp2_with fail
      refine name_calls fun W hN => ?_
      have g0 : Blk W w.heap.size #[.int .u64 p, .int .i64 pub, .int .i64 vars, .slice ra R.length rc] 34 := by rw [hN]; exact Blk.newAt rfl
      have hB : Below w.heap.size w W := by rw [hN]; exact (Below.refl _ _).alloc (Nat.le_refl _) _
      clear hN
      refine (awake23 W).mono ?_
      rintro e w1 ⟨rfl, hb1⟩
      replace g0 := g0.mono hb1
      replace hB := below2 hB hb1
      clear hb1
      have k0 := g0.cell (j := 0) (v := .int .u64 p) rfl; have k1 := g0.cell (j := 1) (v := .int .i64 pub) rfl; have k2 := g0.cell (j := 2) (v := .int .i64 vars) rfl; have k3 := g0.cell (j := 3) (v := .slice ra R.length rc) rfl
      go_wp2_with fail
      refine (cS _ (hR.mono hB)).mono ?_
      rintro e w2 ⟨rfl, hb2⟩
      replace g0 := g0.mono hb2
      replace hB := below2 hB hb2
      clear hb2 k0 k1 k2 k3
      have k0 := g0.cell (j := 0) (v := .int .u64 p) rfl; have k1 := g0.cell (j := 1) (v := .int .i64 pub) rfl; have k2 := g0.cell (j := 2) (v := .int .i64 vars) rfl; have k3 := g0.cell (j := 3) (v := .slice ra R.length rc) rfl
      go_wp2_with fail
      refine (awake23 _).mono ?_
      rintro e wz ⟨rfl, hbz⟩
      replace hB := below2 hB hbz
      clear hbz
      go_wp2
      go_ret
      exact ⟨rfl, hB⟩
    · have h300I : ¬ (300 : Int) < n := by omega
      have hnI : (n : Int) ≤ 300 := by omega
      cases hrt : right23 p pub vars R front with
      | false =>
        rw [hrt] at cR
        have hno : cntN p pub vars R front most = 0 ∧ cntE p pub vars R front most = 1 := by
          unfold cntN cntE
          rw [← hres, hrt]
          exact ⟨rfl, rfl⟩
        rw [hno.1, hno.2] at cC
        clear hno hres hrt
        replace hnl := hide hnl
        go_enter Try.func10, Try.ntmps10
        go_wp2_with fail
        refine name_calls fun W hN => ?_
        have g0 : Blk W w.heap.size #[.int .u64 p, .int .i64 pub, .int .i64 vars, .slice ra R.length rc] 34 := by rw [hN]; exact Blk.newAt rfl
        have hB : Below w.heap.size w W := by rw [hN]; exact (Below.refl _ _).alloc (Nat.le_refl _) _
        clear hN
        refine (awake23 W).mono ?_
        rintro e w1 ⟨rfl, hb1⟩
        replace g0 := g0.mono hb1
        replace hB := below2 hB hb1
        clear hb1
        have k0 := g0.cell (j := 0) (v := .int .u64 p) rfl; have k1 := g0.cell (j := 1) (v := .int .i64 pub) rfl; have k2 := g0.cell (j := 2) (v := .int .i64 vars) rfl; have k3 := g0.cell (j := 3) (v := .slice ra R.length rc) rfl
        go_wp2_with fail
        refine (cS _ (hR.mono hB)).mono ?_
        rintro e w2 ⟨rfl, hb2⟩
        replace g0 := g0.mono hb2
        replace hB := below2 hB hb2
        clear hb2 k0 k1 k2 k3
        have k0 := g0.cell (j := 0) (v := .int .u64 p) rfl; have k1 := g0.cell (j := 1) (v := .int .i64 pub) rfl; have k2 := g0.cell (j := 2) (v := .int .i64 vars) rfl; have k3 := g0.cell (j := 3) (v := .slice ra R.length rc) rfl
        go_wp2_with fail
        refine (cR _ (hR.mono hB) (sF.mono hB)).mono ?_
        rintro e w3 ⟨rfl, hb3⟩
        replace g0 := g0.mono hb3
        replace hB := below2 hB hb3
        clear hb3 k0 k1 k2 k3
        have k0 := g0.cell (j := 0) (v := .int .u64 p) rfl; have k1 := g0.cell (j := 1) (v := .int .i64 pub) rfl; have k2 := g0.cell (j := 2) (v := .int .i64 vars) rfl; have k3 := g0.cell (j := 3) (v := .slice ra R.length rc) rfl
        go_wp2_with fail
        refine (cC _ (hR.mono hB) (sF.mono hB)).mono ?_
        rintro e w4 ⟨rfl, hb4⟩
        replace g0 := g0.mono hb4
        replace hB := below2 hB hb4
        clear hb4 k0 k1 k2 k3
        have k0 := g0.cell (j := 0) (v := .int .u64 p) rfl; have k1 := g0.cell (j := 1) (v := .int .i64 pub) rfl; have k2 := g0.cell (j := 2) (v := .int .i64 vars) rfl; have k3 := g0.cell (j := 3) (v := .slice ra R.length rc) rfl
        go_wp2_with fail
        go_wp2
        go_ret
        exact ⟨rfl, hB⟩
      | true =>
        rw [hrt] at cR
        by_cases h0 : 0 ≤ most
        · have hok : cntOk p pub vars R front most = true := by rw [← hres, hrt, decide_eq_true h0]; rfl
          have hok2 := hok
          unfold cntOk at hok2
          simp only [Bool.and_eq_true, decide_eq_true_iff] at hok2
          obtain ⟨⟨⟨hT, hlV⟩, _⟩, hall⟩ := hok2
          obtain ⟨hv, hpub, hpv, hvl, hRl⟩ := tbl_bd hT
          have hp := vld_pos hv
          obtain ⟨P, rfl⟩ : ∃ P : Nat, p = (P : Int) := ⟨p.toNat, by omega⟩
          obtain ⟨V, rfl⟩ : ∃ V : Nat, vars = (V : Int) := ⟨vars.toNat, by omega⟩
          rw [hnl] at hlV
          by_cases h257 : P ≤ 257
          · have h257I : (P : Int) ≤ 257 := by omega
            have h257N : ¬ (257 : Int) < P := by omega
            have cN : cntN P pub V R front most = totN P (R.map Rw.val) V front most ∧ cntE P pub V R front most = 0 := by
              unfold cntN cntE
              rw [hok, if_pos rfl, if_pos rfl, if_neg h257N, if_neg h257N, Int.toNat_natCast, Int.toNat_natCast]
              exact ⟨rfl, rfl⟩
            rw [cN.1, cN.2] at cC
            have hFp : ∀ x ∈ front, 0 ≤ x ∧ x < (P : Int) := fun x hx => by
              obtain ⟨k, hk, rfl⟩ := List.mem_iff_getElem.1 hx
              have h2 := of_decide_eq_true hall k hk
              rw [List.getD_eq_getElem?_getD, List.getElem?_eq_getElem hk] at h2
              exact ⟨(hF _ hx).1, h2⟩
            have cT := fun W h1 h2 => rTot_any P V pub ra R rc fa fc front most W (by omega) h257 (rows_of hT hR) (by omega) (by omega) h1 h2 hFp (by rw [hnl]; omega) ⟨h0, hm2⟩
            have cW := fun W h1 => rFew_any P V n pub ra R rc W h1 (by omega) (by omega) (by omega)
            rw [hnl] at cT
            clear hok hall hres hrt cN hFp hF hT hv hRl
            replace hnl := hide hnl
            generalize totN P (R.map Rw.val) V front most = z at *
            cases hfew : fewB P V n R with
            | false =>
              rw [hfew] at cW
              clear hfew
              go_enter Try.func10, Try.ntmps10
              go_wp2_with fail
              refine name_calls fun W hN => ?_
              have g0 : Blk W w.heap.size #[.int .u64 P, .int .i64 pub, .int .i64 V, .slice ra R.length rc] 34 := by rw [hN]; exact Blk.newAt rfl
              have hB : Below w.heap.size w W := by rw [hN]; exact (Below.refl _ _).alloc (Nat.le_refl _) _
              clear hN
              refine (awake23 W).mono ?_
              rintro e w1 ⟨rfl, hb1⟩
              replace g0 := g0.mono hb1
              replace hB := below2 hB hb1
              clear hb1
              have k0 := g0.cell (j := 0) (v := .int .u64 P) rfl; have k1 := g0.cell (j := 1) (v := .int .i64 pub) rfl; have k2 := g0.cell (j := 2) (v := .int .i64 V) rfl; have k3 := g0.cell (j := 3) (v := .slice ra R.length rc) rfl
              go_wp2_with fail
              refine (cS _ (hR.mono hB)).mono ?_
              rintro e w2 ⟨rfl, hb2⟩
              replace g0 := g0.mono hb2
              replace hB := below2 hB hb2
              clear hb2 k0 k1 k2 k3
              have k0 := g0.cell (j := 0) (v := .int .u64 P) rfl; have k1 := g0.cell (j := 1) (v := .int .i64 pub) rfl; have k2 := g0.cell (j := 2) (v := .int .i64 V) rfl; have k3 := g0.cell (j := 3) (v := .slice ra R.length rc) rfl
              go_wp2_with fail
              refine (cR _ (hR.mono hB) (sF.mono hB)).mono ?_
              rintro e w3 ⟨rfl, hb3⟩
              replace g0 := g0.mono hb3
              replace hB := below2 hB hb3
              clear hb3 k0 k1 k2 k3
              have k0 := g0.cell (j := 0) (v := .int .u64 P) rfl; have k1 := g0.cell (j := 1) (v := .int .i64 pub) rfl; have k2 := g0.cell (j := 2) (v := .int .i64 V) rfl; have k3 := g0.cell (j := 3) (v := .slice ra R.length rc) rfl
              go_wp2_with fail
              refine (cW _ (hR.mono hB)).mono ?_
              rintro e w4 ⟨rfl, hb4⟩
              replace g0 := g0.mono hb4
              replace hB := below2 hB hb4
              clear hb4 k0 k1 k2 k3
              have k0 := g0.cell (j := 0) (v := .int .u64 P) rfl; have k1 := g0.cell (j := 1) (v := .int .i64 pub) rfl; have k2 := g0.cell (j := 2) (v := .int .i64 V) rfl; have k3 := g0.cell (j := 3) (v := .slice ra R.length rc) rfl
              go_wp2_with fail
              go_wp2
              go_ret
              exact ⟨rfl, hB⟩
            | true =>
              rw [hfew] at cW
              clear hfew
              go_enter Try.func10, Try.ntmps10
              go_wp2_with fail
              refine name_calls fun W hN => ?_
              have g0 : Blk W w.heap.size #[.int .u64 P, .int .i64 pub, .int .i64 V, .slice ra R.length rc] 34 := by rw [hN]; exact Blk.newAt rfl
              have hB : Below w.heap.size w W := by rw [hN]; exact (Below.refl _ _).alloc (Nat.le_refl _) _
              clear hN
              refine (awake23 W).mono ?_
              rintro e w1 ⟨rfl, hb1⟩
              replace g0 := g0.mono hb1
              replace hB := below2 hB hb1
              clear hb1
              have k0 := g0.cell (j := 0) (v := .int .u64 P) rfl; have k1 := g0.cell (j := 1) (v := .int .i64 pub) rfl; have k2 := g0.cell (j := 2) (v := .int .i64 V) rfl; have k3 := g0.cell (j := 3) (v := .slice ra R.length rc) rfl
              go_wp2_with fail
              refine (cS _ (hR.mono hB)).mono ?_
              rintro e w2 ⟨rfl, hb2⟩
              replace g0 := g0.mono hb2
              replace hB := below2 hB hb2
              clear hb2 k0 k1 k2 k3
              have k0 := g0.cell (j := 0) (v := .int .u64 P) rfl; have k1 := g0.cell (j := 1) (v := .int .i64 pub) rfl; have k2 := g0.cell (j := 2) (v := .int .i64 V) rfl; have k3 := g0.cell (j := 3) (v := .slice ra R.length rc) rfl
              go_wp2_with fail
              refine (cR _ (hR.mono hB) (sF.mono hB)).mono ?_
              rintro e w3 ⟨rfl, hb3⟩
              replace g0 := g0.mono hb3
              replace hB := below2 hB hb3
              clear hb3 k0 k1 k2 k3
              have k0 := g0.cell (j := 0) (v := .int .u64 P) rfl; have k1 := g0.cell (j := 1) (v := .int .i64 pub) rfl; have k2 := g0.cell (j := 2) (v := .int .i64 V) rfl; have k3 := g0.cell (j := 3) (v := .slice ra R.length rc) rfl
              go_wp2_with fail
              refine (cW _ (hR.mono hB)).mono ?_
              rintro e w4 ⟨rfl, hb4⟩
              replace g0 := g0.mono hb4
              replace hB := below2 hB hb4
              clear hb4 k0 k1 k2 k3
              have k0 := g0.cell (j := 0) (v := .int .u64 P) rfl; have k1 := g0.cell (j := 1) (v := .int .i64 pub) rfl; have k2 := g0.cell (j := 2) (v := .int .i64 V) rfl; have k3 := g0.cell (j := 3) (v := .slice ra R.length rc) rfl
              go_wp2_with fail
              refine (cC _ (hR.mono hB) (sF.mono hB)).mono ?_
              rintro e w5 ⟨rfl, hb5⟩
              replace g0 := g0.mono hb5
              replace hB := below2 hB hb5
              clear hb5 k0 k1 k2 k3
              have k0 := g0.cell (j := 0) (v := .int .u64 P) rfl; have k1 := g0.cell (j := 1) (v := .int .i64 pub) rfl; have k2 := g0.cell (j := 2) (v := .int .i64 V) rfl; have k3 := g0.cell (j := 3) (v := .slice ra R.length rc) rfl
              go_wp2_with fail
              refine (cT _ (hR.mono hB) (sF.mono hB)).mono ?_
              rintro e w6 ⟨rfl, hb6⟩
              replace g0 := g0.mono hb6
              replace hB := below2 hB hb6
              clear hb6 k0 k1 k2 k3
              have k0 := g0.cell (j := 0) (v := .int .u64 P) rfl; have k1 := g0.cell (j := 1) (v := .int .i64 pub) rfl; have k2 := g0.cell (j := 2) (v := .int .i64 V) rfl; have k3 := g0.cell (j := 3) (v := .slice ra R.length rc) rfl
              go_wp2_with fail
              go_wp2
              go_ret
              exact ⟨rfl, hB⟩
          · have h257I : ¬ (P : Int) ≤ 257 := by omega
            have h257N : (257 : Int) < P := by omega
            have cN : cntN P pub V R front most = 0 ∧ cntE P pub V R front most = 7 := by
              unfold cntN cntE
              rw [hok, if_pos rfl, if_pos rfl, if_pos h257N, if_pos h257N]
              exact ⟨rfl, rfl⟩
            rw [cN.1, cN.2] at cC
            clear hok hall hres hrt cN hF hT hv hRl
            replace hnl := hide hnl
            go_enter Try.func10, Try.ntmps10
            go_wp2_with fail
            refine name_calls fun W hN => ?_
            have g0 : Blk W w.heap.size #[.int .u64 P, .int .i64 pub, .int .i64 V, .slice ra R.length rc] 34 := by rw [hN]; exact Blk.newAt rfl
            have hB : Below w.heap.size w W := by rw [hN]; exact (Below.refl _ _).alloc (Nat.le_refl _) _
            clear hN
            refine (awake23 W).mono ?_
            rintro e w1 ⟨rfl, hb1⟩
            replace g0 := g0.mono hb1
            replace hB := below2 hB hb1
            clear hb1
            have k0 := g0.cell (j := 0) (v := .int .u64 P) rfl; have k1 := g0.cell (j := 1) (v := .int .i64 pub) rfl; have k2 := g0.cell (j := 2) (v := .int .i64 V) rfl; have k3 := g0.cell (j := 3) (v := .slice ra R.length rc) rfl
            go_wp2_with fail
            refine (cS _ (hR.mono hB)).mono ?_
            rintro e w2 ⟨rfl, hb2⟩
            replace g0 := g0.mono hb2
            replace hB := below2 hB hb2
            clear hb2 k0 k1 k2 k3
            have k0 := g0.cell (j := 0) (v := .int .u64 P) rfl; have k1 := g0.cell (j := 1) (v := .int .i64 pub) rfl; have k2 := g0.cell (j := 2) (v := .int .i64 V) rfl; have k3 := g0.cell (j := 3) (v := .slice ra R.length rc) rfl
            go_wp2_with fail
            refine (cR _ (hR.mono hB) (sF.mono hB)).mono ?_
            rintro e w3 ⟨rfl, hb3⟩
            replace g0 := g0.mono hb3
            replace hB := below2 hB hb3
            clear hb3 k0 k1 k2 k3
            have k0 := g0.cell (j := 0) (v := .int .u64 P) rfl; have k1 := g0.cell (j := 1) (v := .int .i64 pub) rfl; have k2 := g0.cell (j := 2) (v := .int .i64 V) rfl; have k3 := g0.cell (j := 3) (v := .slice ra R.length rc) rfl
            go_wp2_with fail
            refine (cC _ (hR.mono hB) (sF.mono hB)).mono ?_
            rintro e w4 ⟨rfl, hb4⟩
            replace g0 := g0.mono hb4
            replace hB := below2 hB hb4
            clear hb4 k0 k1 k2 k3
            have k0 := g0.cell (j := 0) (v := .int .u64 P) rfl; have k1 := g0.cell (j := 1) (v := .int .i64 pub) rfl; have k2 := g0.cell (j := 2) (v := .int .i64 V) rfl; have k3 := g0.cell (j := 3) (v := .slice ra R.length rc) rfl
            go_wp2_with fail
            go_wp2
            go_ret
            exact ⟨rfl, hB⟩
        · have h0N : most < 0 := by omega
          have hno : cntN p pub vars R front most = 0 ∧ cntE p pub vars R front most = 1 := by
            unfold cntN cntE
            rw [← hres, hrt, decide_eq_false h0]
            exact ⟨rfl, rfl⟩
          rw [hno.1, hno.2] at cC
          clear hno hres hrt
          replace hnl := hide hnl
          go_enter Try.func10, Try.ntmps10
          go_wp2_with fail
          refine name_calls fun W hN => ?_
          have g0 : Blk W w.heap.size #[.int .u64 p, .int .i64 pub, .int .i64 vars, .slice ra R.length rc] 34 := by rw [hN]; exact Blk.newAt rfl
          have hB : Below w.heap.size w W := by rw [hN]; exact (Below.refl _ _).alloc (Nat.le_refl _) _
          clear hN
          refine (awake23 W).mono ?_
          rintro e w1 ⟨rfl, hb1⟩
          replace g0 := g0.mono hb1
          replace hB := below2 hB hb1
          clear hb1
          have k0 := g0.cell (j := 0) (v := .int .u64 p) rfl; have k1 := g0.cell (j := 1) (v := .int .i64 pub) rfl; have k2 := g0.cell (j := 2) (v := .int .i64 vars) rfl; have k3 := g0.cell (j := 3) (v := .slice ra R.length rc) rfl
          go_wp2_with fail
          refine (cS _ (hR.mono hB)).mono ?_
          rintro e w2 ⟨rfl, hb2⟩
          replace g0 := g0.mono hb2
          replace hB := below2 hB hb2
          clear hb2 k0 k1 k2 k3
          have k0 := g0.cell (j := 0) (v := .int .u64 p) rfl; have k1 := g0.cell (j := 1) (v := .int .i64 pub) rfl; have k2 := g0.cell (j := 2) (v := .int .i64 vars) rfl; have k3 := g0.cell (j := 3) (v := .slice ra R.length rc) rfl
          go_wp2_with fail
          refine (cR _ (hR.mono hB) (sF.mono hB)).mono ?_
          rintro e w3 ⟨rfl, hb3⟩
          replace g0 := g0.mono hb3
          replace hB := below2 hB hb3
          clear hb3 k0 k1 k2 k3
          have k0 := g0.cell (j := 0) (v := .int .u64 p) rfl; have k1 := g0.cell (j := 1) (v := .int .i64 pub) rfl; have k2 := g0.cell (j := 2) (v := .int .i64 vars) rfl; have k3 := g0.cell (j := 3) (v := .slice ra R.length rc) rfl
          go_wp2_with fail
          refine (cC _ (hR.mono hB) (sF.mono hB)).mono ?_
          rintro e w4 ⟨rfl, hb4⟩
          replace g0 := g0.mono hb4
          replace hB := below2 hB hb4
          clear hb4 k0 k1 k2 k3
          have k0 := g0.cell (j := 0) (v := .int .u64 p) rfl; have k1 := g0.cell (j := 1) (v := .int .i64 pub) rfl; have k2 := g0.cell (j := 2) (v := .int .i64 vars) rfl; have k3 := g0.cell (j := 3) (v := .slice ra R.length rc) rfl
          go_wp2_with fail
          go_wp2
          go_ret
          exact ⟨rfl, hB⟩

set_option maxRecDepth 100000 in
theorem lifted (os : Os) (started : os.Started) (H : Type) (enc : TypeId × Value → H) :
    ReturnsInHanded {} Try.checked os 10 .any (Rows.exhaustiveCountSpec.pre6 enc Try.prog Try.f10 Rows.exhaustiveCountRow.domain false) (Rows.exhaustiveCountSpec.post enc Try.prog Try.f10 false true false false) := by
  refine returnsInHanded_of_change (C := Try.checked) own started (by kernel_rfl) Try.func10
    (ChangeSpec.witness6 (enc := enc) (C := Try.checked) false ⟨#[], #[.agg #[.int .u64 0, .int .i64 0, .int .i64 0, .slice none 0 0], .slice none 0 0, .int .i64 0], []⟩ 8 (by kernel_rfl) (by kernel_rfl) (by kernel_rfl) (by kernel_rfl)) ?_
  intro W base args ds gs before hval0 hW hcnd _
  have hval : ∀ (j : Nat) t v, Try.f10.params[j]? = some t → args[j]? = some v → Value.okWide Try.prog W .any base t v := hval0
  have hW' := hW
  obtain ⟨p, q, hA0, hV, rfl, hfz, hnd⟩ := hW
  have hA : DataW.TrodAll enc Try.prog W 0 (fun _ => true) true Try.f10.params.toList args.toList ds p := hA0
  rw [Try.params10] at hA hval
  obtain ⟨v0, vs0, d0, ds0, p0, q0, hargs, rfl, rfl, h0, r0⟩ := trodAll_cons hA
  obtain ⟨v1, vs1, d1, ds1, p1, q1, rfl, rfl, rfl, h1, r1⟩ := trodAll_cons r0
  obtain ⟨v2, vs2, d2, ds2, p2, q2, rfl, rfl, rfl, h2, r2⟩ := trodAll_cons r1
  obtain ⟨rfl, rfl, rfl⟩ := trodAll_nil r2
  obtain rfl : args = #[v0, v1, v2] := by cases args; simp_all
  obtain ⟨rfl, rfl⟩ := trodVars_none hV
  have k0 := h0
  have k1 := h1
  obtain ⟨p0, pub0, vars0, ra0, rc0, R0, rfl, wc0, hR0⟩ := open_tbl h0 (hval 0 34 v0 rfl rfl)
  obtain ⟨ad1, cap1, xs1, rfl, S1⟩ := open_slice Try.underlying54 Try.underlying22 (by kernel_rfl) h1 (hval 1 54 v1 rfl rfl) (fun x hx => hW'.lt x (by simp [hx]))
  obtain ⟨a2, rfl, rfl, rfl, w2⟩ := open_int Try.underlying3 (hval 2 3 v2 rfl rfl) h2
  clear hA0 hval0
  simp only [List.append_nil] at hW'
  refine (walk p0 pub0 vars0 ra0 rc0 R0 ad1 cap1 xs1 a2 W wc0 hR0 S1 w2).mono fun e W' ⟨he, hg⟩ => ?_
  subst he
  exact ⟨_, rfl, post_of_below (pv := []) hW' (fun _ _ _ => (trodAll_cons_mk (shut_bool Try.underlying4 _) trodAll_mk0))
    (fun sp _ hsp => by subst hsp; exact (trodAll_cons_mk (Below.trod Try.laidOut (by kernel_rfl) (of_decide_eq_true (by kernel_rfl)) k0 hg (fun x hx => hW'.lt x (by simp [hx]))) (trodAll_cons_mk (Below.trod Try.laidOut (by kernel_rfl) (of_decide_eq_true (by kernel_rfl)) k1 hg (fun x hx => hW'.lt x (by simp [hx]))) (trodAll_cons_mk (shut_int Try.underlying3 w2) trodAll_mk0)))) (fun _ _ => rfl) (by simp) hg⟩

theorem closed : joinedFacts Try.prog 10 Try.f10 Rows.exhaustiveCountSpec Rows.exhaustiveCountRow = true := by
  unfold joinedFacts
  rw [Try.mayEnter, Try.liftsFinal, Try.make]
  kernel_rfl

theorem proved : Rows.ExhaustiveCountSaid :=
  OpenClaim.holds_of_wide 10 Try.f10 rfl rfl rfl rfl rfl rfl rfl ⟨rfl, rfl, rfl, rfl, rfl⟩ rfl rfl rfl rfl rfl (by kernel_rfl) Try.func10 closed
    (of_decide_eq_true (by kernel_rfl)) (by unfold Func.isWrapper; first | (rw [if_pos (by decide +kernel)]; kernel_rfl) | (rw [if_neg (by decide +kernel)]; exact ⟨rfl, rfl⟩))
    (fun os started H enc _ => lifted os started H enc)
#print axioms proved
end exhaustiveCount
end Go.Proofs.Ytlgjnidphldiiaa
