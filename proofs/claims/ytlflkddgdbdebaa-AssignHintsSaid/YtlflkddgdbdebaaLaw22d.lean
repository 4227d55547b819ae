/- AssignHints: an assignment begins with 1 and the inputs, and each further variable has the property of its hint. -/
import Derived.Test.YtlflkddgdbdebaaCircH
import Derived.Test.YtlflkddgdbdebaaSeg
namespace Go.Proofs.Ytlflkddgdbdebaa
open Go.ChangeShapes Go.WideShapes Go.ChangeAt Go.RowKit
namespace assignHints

set_option maxRecDepth 10000 in
set_option maxHeartbeats 8000000 in
theorem walk (p pub vars : Int) (ra : Option Addr) (rc : Nat) (R : List Rw) (sec : Int) (ha : Option Addr) (hc : Nat) (H : List Hn) (ua : Option Addr) (uc : Nat) (u : List Int) (sa : Option Addr) (sc : Nat) (s : List Int) (w : World)
    (hwf : (Lit.int .u64 p).wf = true ∧ (Lit.int .i64 pub).wf = true ∧ (Lit.int .i64 vars).wf = true ∧ (Lit.int .i64 sec).wf = true) (hR : RowsP w ra rc R) (hH : HintsP w ha hc H) (SU : SlP w .u64 ua uc u) (SS : SlP w .u64 sa sc s) :
    Calls Try.prog 6 #[.agg #[.int .u64 p, .int .i64 pub, .int .i64 vars, .slice ra R.length rc, .int .i64 sec, .slice ha H.length hc], .slice ua u.length uc, .slice sa s.length sc] w fun e w' => e = .returned (.bool true) ∧ Below w.heap.size w w' := by
  have hu := SU.sl
  have hs := SS.sl
  have hAu := wfs_u64 SU.wf
  have hAs := wfs_u64 SS.wf
  have hun := slp_len SU
  have hsn := slp_len SS
  clear SU SS
  have cSh := fun (b : Nat) W h1 h2 g => short2_any p pub vars ra R rc sec ha H hc b ua uc u sa sc s W h1 h2 g hun hsn
  replace hun := hide hun
  replace hsn := hide hsn
  have cA := fun (x : Option Addr) (xc : Nat) (y : Option Addr) (yc : Nat) W h1 h2 h3 h4 => aRun_any p pub vars ra R rc sec ha H hc x xc u y yc s W h1 h2 hwf.2.2.2 h3 h4 hAu hAs
  have hLW := runL_W (p := p) (pub := pub) (vars := vars) (R := R) (sec := sec) (H := H) hAu hAs
  obtain ⟨K0, hK0⟩ : ∃ K0, K0 = runOk p pub vars R sec H u s := ⟨_, rfl⟩
  clear hwf
  obtain ⟨S, hS⟩ : ∃ S, S = shortC R H u s := ⟨_, rfl⟩
  rw [← hS] at cSh
  cases S with
  | false =>
    clear hS cA hAu hAs hu hs hLW hK0
    go_enter Try.func6, Try.ntmps6
    go_wp2_with fail
    refine name_calls fun W hN => ?_
    have g0 : Blk W w.heap.size #[.int .u64 p, .int .i64 pub, .int .i64 vars, .slice ra R.length rc, .int .i64 sec, .slice ha H.length hc] 28 := by rw [hN]; exact Blk.newAt rfl
    have hB : Below w.heap.size w W := by rw [hN]; exact (Below.refl _ _).alloc (Nat.le_refl _) _
    clear hN
    refine (awake22 W).mono ?_
    rintro e w1 ⟨rfl, hb1⟩
    replace g0 := g0.mono hb1
    replace hB := below2 hB hb1
    clear hb1
    have k0 := g0.cell (j := 0) (v := .int .u64 p) rfl; have k1 := g0.cell (j := 1) (v := .int .i64 pub) rfl; have k2 := g0.cell (j := 2) (v := .int .i64 vars) rfl; have k3 := g0.cell (j := 3) (v := .slice ra R.length rc) rfl; have k4 := g0.cell (j := 4) (v := .int .i64 sec) rfl; have k5 := g0.cell (j := 5) (v := .slice ha H.length hc) rfl
    have hg0 := g0.lt
    go_wp2_with fail
    refine name_calls fun W2 hN => ?_
    have hb2 : Below w1.heap.size w1 W2 := by rw [hN]; exact (Below.refl _ _).alloc (Nat.le_refl _) _
    have gS : Blk W2 w1.heap.size #[.slice ua u.length uc, .slice sa s.length sc] 32 := by rw [hN]; exact Blk.newAt rfl
    clear hN k0 k1 k2 k3 k4 k5 hg0
    replace g0 := g0.mono hb2
    replace hB := below2 hB hb2
    clear hb2
    refine (cSh _ W2 (hR.mono hB) (hH.mono hB) gS).mono ?_
    rintro e w3 ⟨rfl, hb3⟩
    replace g0 := g0.mono hb3
    replace hB := below2 hB hb3
    clear hb3 gS cSh
    go_wp2
    go_ret
    exact ⟨rfl, hB⟩
  | true =>
    obtain ⟨hl1, hl2⟩ := short_len hS.symm
    clear hS
    cases K0 with
    | false =>
      obtain ⟨e1, e2, _, _⟩ := runE_no hK0.symm
      rw [e1, e2] at cA
      clear e1 e2 hK0 hLW hAu hAs
      go_enter Try.func6, Try.ntmps6
      go_wp2_with fail
      refine name_calls fun W hN => ?_
      have g0 : Blk W w.heap.size #[.int .u64 p, .int .i64 pub, .int .i64 vars, .slice ra R.length rc, .int .i64 sec, .slice ha H.length hc] 28 := by rw [hN]; exact Blk.newAt rfl
      have hB : Below w.heap.size w W := by rw [hN]; exact (Below.refl _ _).alloc (Nat.le_refl _) _
      clear hN
      refine (awake22 W).mono ?_
      rintro e w1 ⟨rfl, hb1⟩
      replace g0 := g0.mono hb1
      replace hB := below2 hB hb1
      clear hb1
      have k0 := g0.cell (j := 0) (v := .int .u64 p) rfl; have k1 := g0.cell (j := 1) (v := .int .i64 pub) rfl; have k2 := g0.cell (j := 2) (v := .int .i64 vars) rfl; have k3 := g0.cell (j := 3) (v := .slice ra R.length rc) rfl; have k4 := g0.cell (j := 4) (v := .int .i64 sec) rfl; have k5 := g0.cell (j := 5) (v := .slice ha H.length hc) rfl
      have hg0 := g0.lt
      go_wp2_with fail
      refine name_calls fun W2 hN => ?_
      have hb2 : Below w1.heap.size w1 W2 := by rw [hN]; exact (Below.refl _ _).alloc (Nat.le_refl _) _
      have gS : Blk W2 w1.heap.size #[.slice ua u.length uc, .slice sa s.length sc] 32 := by rw [hN]; exact Blk.newAt rfl
      clear hN k0 k1 k2 k3 k4 k5 hg0
      replace g0 := g0.mono hb2
      replace hB := below2 hB hb2
      clear hb2
      refine (cSh _ W2 (hR.mono hB) (hH.mono hB) gS).mono ?_
      rintro e w3 ⟨rfl, hb3⟩
      replace g0 := g0.mono hb3
      replace hB := below2 hB hb3
      clear hb3 gS cSh
      go_wp2_with fail
      refine Rel.region_any Try.mixed fun w3d hbd => ?_
      replace g0 := g0.mono hbd
      replace hB := below2 hB hbd
      clear hbd
      refine Rel.any_seg_k 7 [] (by kernel_rfl) fun K hK => ?_
      have k0 := cell_later' (g0.cell (j := 0) (v := .int .u64 p) rfl); have k1 := cell_later' (g0.cell (j := 1) (v := .int .i64 pub) rfl); have k2 := cell_later' (g0.cell (j := 2) (v := .int .i64 vars) rfl); have k3 := cell_later' (g0.cell (j := 3) (v := .slice ra R.length rc) rfl); have k4 := cell_later' (g0.cell (j := 4) (v := .int .i64 sec) rfl); have k5 := cell_later' (g0.cell (j := 5) (v := .slice ha H.length hc) rfl)
      simp only [List.take_succ_cons, List.take_zero]
      refine Rel.any_mix (w0 := w3d) 5 [] [(2, fun v w => Own w w3d.heap.size 22 .u64 v u), (4, fun v w => Own w w3d.heap.size 22 .u64 v s)] ⟨⟨w3d.drawn, #[]⟩, by simp [later]⟩ (by kernel_rfl) (by kernel_rfl) ?_ ?_
      · intro z hz v q q' h1 h2
        simp only [List.mem_cons, List.not_mem_nil, or_false] at hz
        rcases hz with rfl | rfl
        · exact Own.mono h1 h2
        · exact Own.mono h1 h2
      simp only [List.take_succ_cons, List.take_zero, List.drop_succ_cons, List.drop_zero, List.map_cons, List.map_nil]
      repeat (first | (refine Rel.wpA_b (by rfl) ?_) | (refine Rel.wpA_step (by rfl) fun K hK => ?_; go_simp; refine hK _ ?_; clear hK K))
      refine Rel.wpA_nil ?_
      refine Rel.wpB_step _ rfl rfl (fun p' hx => ?_) (fun x2 => ?_)
      · refine rU_of (fr := false) (r := .ok (.enter 15 #[.slice ua u.length uc]) (later w3d p')) (by kernel_rfl) (by kernel_rfl) ?_
        exact rU_sl (own22_any ua uc u _ ((hu.mono hB).mono (below_later _ _)) (by omega))
      refine Rel.wpB_step _ rfl rfl (fun p' hx => ?_) (fun x4 => ?_)
      · refine rU_of (fr := false) (r := .ok (.enter 15 #[.slice sa s.length sc]) (later w3d p')) (by kernel_rfl) (by kernel_rfl) ?_
        exact rU_sl (own22_any sa sc s _ ((hs.mono hB).mono (below_later _ _)) (by omega))
      refine Rel.wpB_nil ?_
      intro p' hctx hfr
      simp only [List.nil_append, List.cons_append, List.mem_cons, List.not_mem_nil, or_false, forall_eq_or_imp, forall_eq] at hctx
      obtain ⟨own2, own4⟩ := hctx
      have hbo := below_later w3d p'
      clear hfr k0 k1 k2 k3 k4 k5
      generalize later w3d p' = w3e at *
      replace g0 := g0.mono hbo
      replace hB := below2 hB hbo
      clear hbo
      obtain ⟨ad2, c2', rfl, sl2, _, _⟩ := Own.sl own2
      obtain ⟨ad4, c4', rfl, sl4, _, _⟩ := Own.sl own4
      clear own2 own4
      go_wp2_with fail
      refine (cA ad2 c2' ad4 c4' w3e (hR.mono hB) (hH.mono hB) sl2 sl4).mono ?_
      rintro e w3f ⟨v9, rfl, own_v9, hbo⟩
      replace g0 := g0.mono hbo
      replace hB := below2 hB hbo
      clear hbo sl2 sl4
      go_wp2_with fail
      refine hK _ _ (by kernel_rfl) ?_
      clear hK K
      refine Rel.any_later_tail 10 (by kernel_rfl) ?_
      simp only [Rel.seg2]
      repeat (first | simp only [List.take_succ_cons] | simp only [List.take_zero] | simp only [List.drop_succ_cons] | simp only [List.drop_zero] | simp only [Nat.reduceAdd] | simp only [Nat.reduceLT] | simp only [if_true] | simp only [if_false] | simp only [Rel.quietOp] | simp only [Rel.laterOp] | simp only [List.contains_nil] | simp only [List.contains_cons] | simp only [Nat.reduceBEq] | simp only [Bool.or_false] | simp only [Bool.false_or] | simp only [Bool.or_self] | simp only [Bool.true_or] | simp only [Bool.or_true] | simp only [Bool.false_eq_true])
      repeat (first | go_big_quiet_step (first | fail) | quiet_step (first | fail))
      refine wpQuiet_nil ?_
      intro w4 hbo
      replace hbo := below_of_later hbo
      replace g0 := g0.mono hbo
      replace hB := below2 hB hbo
      replace own_v9 := own_v9.mono hbo
      clear hbo
      clear cA
      obtain ⟨a9, c9, e9, _, _, _⟩ := Own.sl own_v9
      simp only [List.length_nil] at e9
      subst e9
      go_wp2
      go_ret
      exact ⟨rfl, hB⟩
    | true =>
      have e1 := (runE_of hK0.symm).1
      have hro := hK0.symm
      unfold runOk at hro
      rw [Bool.and_eq_true] at hro
      obtain ⟨hT, hs0, hv, hok⟩ := cir_bd hro.1
      obtain ⟨hvp, hp0, hp1, hp2, _⟩ := tbl_bd hT
      have hin := of_decide_eq_true hro.2
      have hiu := hin.1
      have his := hin.2.1
      have eL : runL p pub vars R sec H u s = runH p (1 :: (u ++ s)) H := by unfold runL; rw [← hK0, if_pos rfl]
      rw [e1] at cA
      rw [eL] at cA hLW
      have hl0 : (1 :: (u ++ s) : List Int).length = 1 + u.length + s.length := by simp; omega
      have hget := fun i hi => runH_get (p := p) (W := 1 :: (u ++ s)) (H := H) (fun i hi => by rw [hl0]; have := hok i hi; rw [show (((1 + u.length + s.length : Nat) : Int) + i) = 1 + pub + sec + i by omega]; exact this) (i := i) hi
      have htk := runH_take (p := p) (W := 1 :: (u ++ s)) (H := H)
      have hLl := runH_len p (1 :: (u ++ s)) H
      obtain ⟨L0, hL0⟩ : ∃ L0, L0 = 1 :: (u ++ s) := ⟨_, rfl⟩
      rw [← hL0] at cA hLW hget htk hLl hl0
      have hL0e : [1] ++ u ++ s = L0 := by rw [hL0]; simp
      obtain ⟨L, hL⟩ : ∃ L, L = runH p L0 H := ⟨_, rfl⟩
      rw [← hL] at cA hLW htk hLl
      simp only [← hL] at hget
      have hhc := fun i hi => (hint_cases (hok i hi)).2
      have hlv : ((L.length : Int) != vars) = false := by
        have : (L.length : Int) = vars := by omega
        simp [this]
      have hLb : L.length ≤ 65536 := by omega
      replace hget := hide hget
      replace htk := hide htk
      replace hL0e := hide hL0e
      replace hhc := hide hhc
      replace hvp := hide hvp
      replace hLl := hide hLl
      replace hl0 := hide hl0
      clear e1 hro hT hv hok hin hiu his eL hL0 hL hK0 hp0 hp1 hp2 hAu hAs hs0
      go_enter Try.func6, Try.ntmps6
      go_wp2_with fail
      refine name_calls fun W hN => ?_
      have g0 : Blk W w.heap.size #[.int .u64 p, .int .i64 pub, .int .i64 vars, .slice ra R.length rc, .int .i64 sec, .slice ha H.length hc] 28 := by rw [hN]; exact Blk.newAt rfl
      have hB : Below w.heap.size w W := by rw [hN]; exact (Below.refl _ _).alloc (Nat.le_refl _) _
      clear hN
      refine (awake22 W).mono ?_
      rintro e w1 ⟨rfl, hb1⟩
      replace g0 := g0.mono hb1
      replace hB := below2 hB hb1
      clear hb1
      have k0 := g0.cell (j := 0) (v := .int .u64 p) rfl; have k1 := g0.cell (j := 1) (v := .int .i64 pub) rfl; have k2 := g0.cell (j := 2) (v := .int .i64 vars) rfl; have k3 := g0.cell (j := 3) (v := .slice ra R.length rc) rfl; have k4 := g0.cell (j := 4) (v := .int .i64 sec) rfl; have k5 := g0.cell (j := 5) (v := .slice ha H.length hc) rfl
      have hg0 := g0.lt
      go_wp2_with fail
      refine name_calls fun W2 hN => ?_
      have hb2 : Below w1.heap.size w1 W2 := by rw [hN]; exact (Below.refl _ _).alloc (Nat.le_refl _) _
      have gS : Blk W2 w1.heap.size #[.slice ua u.length uc, .slice sa s.length sc] 32 := by rw [hN]; exact Blk.newAt rfl
      clear hN k0 k1 k2 k3 k4 k5 hg0
      replace g0 := g0.mono hb2
      replace hB := below2 hB hb2
      clear hb2
      refine (cSh _ W2 (hR.mono hB) (hH.mono hB) gS).mono ?_
      rintro e w3 ⟨rfl, hb3⟩
      replace g0 := g0.mono hb3
      replace hB := below2 hB hb3
      clear hb3 gS cSh
      go_wp2_with fail
      refine Rel.region_any Try.mixed fun w3d hbd => ?_
      replace g0 := g0.mono hbd
      replace hB := below2 hB hbd
      clear hbd
      refine Rel.any_seg_k 7 [] (by kernel_rfl) fun K hK => ?_
      have k0 := cell_later' (g0.cell (j := 0) (v := .int .u64 p) rfl); have k1 := cell_later' (g0.cell (j := 1) (v := .int .i64 pub) rfl); have k2 := cell_later' (g0.cell (j := 2) (v := .int .i64 vars) rfl); have k3 := cell_later' (g0.cell (j := 3) (v := .slice ra R.length rc) rfl); have k4 := cell_later' (g0.cell (j := 4) (v := .int .i64 sec) rfl); have k5 := cell_later' (g0.cell (j := 5) (v := .slice ha H.length hc) rfl)
      simp only [List.take_succ_cons, List.take_zero]
      refine Rel.any_mix (w0 := w3d) 5 [] [(2, fun v w => Own w w3d.heap.size 22 .u64 v u), (4, fun v w => Own w w3d.heap.size 22 .u64 v s)] ⟨⟨w3d.drawn, #[]⟩, by simp [later]⟩ (by kernel_rfl) (by kernel_rfl) ?_ ?_
      · intro z hz v q q' h1 h2
        simp only [List.mem_cons, List.not_mem_nil, or_false] at hz
        rcases hz with rfl | rfl
        · exact Own.mono h1 h2
        · exact Own.mono h1 h2
      simp only [List.take_succ_cons, List.take_zero, List.drop_succ_cons, List.drop_zero, List.map_cons, List.map_nil]
      repeat (first | (refine Rel.wpA_b (by rfl) ?_) | (refine Rel.wpA_step (by rfl) fun K hK => ?_; go_simp; refine hK _ ?_; clear hK K))
      refine Rel.wpA_nil ?_
      refine Rel.wpB_step _ rfl rfl (fun p' hx => ?_) (fun x2 => ?_)
      · refine rU_of (fr := false) (r := .ok (.enter 15 #[.slice ua u.length uc]) (later w3d p')) (by kernel_rfl) (by kernel_rfl) ?_
        exact rU_sl (own22_any ua uc u _ ((hu.mono hB).mono (below_later _ _)) (by omega))
      refine Rel.wpB_step _ rfl rfl (fun p' hx => ?_) (fun x4 => ?_)
      · refine rU_of (fr := false) (r := .ok (.enter 15 #[.slice sa s.length sc]) (later w3d p')) (by kernel_rfl) (by kernel_rfl) ?_
        exact rU_sl (own22_any sa sc s _ ((hs.mono hB).mono (below_later _ _)) (by omega))
      refine Rel.wpB_nil ?_
      intro p' hctx hfr
      simp only [List.nil_append, List.cons_append, List.mem_cons, List.not_mem_nil, or_false, forall_eq_or_imp, forall_eq] at hctx
      obtain ⟨own2, own4⟩ := hctx
      have hbo := below_later w3d p'
      clear hfr k0 k1 k2 k3 k4 k5
      generalize later w3d p' = w3e at *
      replace g0 := g0.mono hbo
      replace hB := below2 hB hbo
      clear hbo
      obtain ⟨ad2, c2', rfl, sl2, _, _⟩ := Own.sl own2
      obtain ⟨ad4, c4', rfl, sl4, _, _⟩ := Own.sl own4
      clear own2 own4
      go_wp2_with fail
      refine (cA ad2 c2' ad4 c4' w3e (hR.mono hB) (hH.mono hB) sl2 sl4).mono ?_
      rintro e w3f ⟨v9, rfl, own_v9, hbo⟩
      replace g0 := g0.mono hbo
      replace hB := below2 hB hbo
      clear hbo sl2 sl4
      go_wp2_with fail
      refine hK _ _ (by kernel_rfl) ?_
      clear hK K
      refine Rel.any_later_tail 10 (by kernel_rfl) ?_
      simp only [Rel.seg2]
      repeat (first | simp only [List.take_succ_cons] | simp only [List.take_zero] | simp only [List.drop_succ_cons] | simp only [List.drop_zero] | simp only [Nat.reduceAdd] | simp only [Nat.reduceLT] | simp only [if_true] | simp only [if_false] | simp only [Rel.quietOp] | simp only [Rel.laterOp] | simp only [List.contains_nil] | simp only [List.contains_cons] | simp only [Nat.reduceBEq] | simp only [Bool.or_false] | simp only [Bool.false_or] | simp only [Bool.or_self] | simp only [Bool.true_or] | simp only [Bool.or_true] | simp only [Bool.false_eq_true])
      repeat (first | go_big_quiet_step (first | fail) | quiet_step (first | fail))
      refine wpQuiet_nil ?_
      intro w4 hbo
      replace hbo := below_of_later hbo
      replace g0 := g0.mono hbo
      replace hB := below2 hB hbo
      replace own_v9 := own_v9.mono hbo
      clear hbo
      clear cA
      rcases own_v9.form with ⟨_, h0⟩ | ⟨g, c9, cur, e9, _, gL, hcap, hmax, hcur, htake⟩
      · exfalso
        have h1 := hLl.out
        have h2 := hl0.out
        rw [h0, List.length_nil] at h1
        omega
      subst e9
      have hgl := gL.lt
      have own1 : Own (w4.alloc (.cells #[.int .u64 1] 22)) w.heap.size 22 .u64 (.slice (some ⟨w4.heap.size, 0, none⟩) 1 1) [1] := Own.of_blk (xs := [1]) hB.size (Blk.newAt rfl) (by simp) (by simp [maxLen]) rfl rfl
      have hu1 := (hu.mono hB).alloc (.cells #[.int .u64 1] 22)
      have gL1 := gL.alloc (.cells #[.int .u64 1] 22)
      have g1 := g0.alloc (.cells #[.int .u64 1] 22)
      have hB1 := hB.alloc hB.size (.cells #[.int .u64 1] 22)
      have ne1 : (Value.slice (some ⟨w4.heap.size, 0, none⟩) 1 1).ownBlock ≠ some g := by
        intro e
        simp only [Value.ownBlock, Option.some.injEq] at e
        omega
      clear own_v9
      go_wp2_with (at_builtin; refine wpList_app _ rfl _ _ 32 rfl w.heap.size 22 .u64 8 Try.underlying32 Try.infoU64 (by decide) _ [1] u uc _ rfl rfl own1 hu1 (by simp; omega) hB1.size ?_; intro v5 w5 own5 hg5; refine Hold.mk ?_)
      refine Hold.go ?_
      have gL5 := hg5.blk gL1 ne1
      have ne5 := hg5.ne g gL1.lt ne1
      replace g0 := hg5.blk g1 (own_neq own1 g1 (by decide))
      replace hB := hg5.below hB1 own1 (Nat.le_refl _) hB1.size
      clear own1 hu1 gL1 g1 hB1 ne1 hg5 hgl gL
      have hs5 := hs.mono hB
      go_wp2_with (at_builtin; refine wpList_app _ rfl _ _ 32 rfl w.heap.size 22 .u64 8 Try.underlying32 Try.infoU64 (by decide) _ ([1] ++ u) s sc _ rfl rfl own5 hs5 (by simp; omega) hB.size ?_; intro v6 w6 own6 hg6; refine Hold.mk ?_)
      refine Hold.go ?_
      have gL6 := hg6.blk gL5 ne5
      replace g0 := hg6.blk g0 (own_neq own5 g0 (by decide))
      replace hB := hg6.below hB own5 (Nat.le_refl _) hB.size
      rw [hL0e.out] at own6
      clear own5 hs5 gL5 ne5 hg6 hu hs
      have slL : Sl w6 .u64 (some ⟨g, 0, none⟩) L := (Own.of_blk (base := 0) (Nat.zero_le _) gL6 hcap hmax hcur htake).sl_of
      have slT : Sl w6 .u64 (some ⟨g, 0, none⟩) L0 := by
        have := sl_take slL L0.length
        rw [htk.out] at this
        exact this
      obtain ⟨a6, c6, e6, sl6, _, _⟩ := Own.sl own6
      subst e6
      clear own6 gL6 hcur htake cur
      have hLl2 := hLl.out
      have hc1 : L0.length ≤ c9 := by omega
      have hl03 : L0.length ≤ 65536 := by omega
      have hH6 : H.length ≤ 65536 := by omega
      replace hLl2 := hide hLl2
      have k0 := g0.cell (j := 0) (v := .int .u64 p) rfl; have k1 := g0.cell (j := 1) (v := .int .i64 pub) rfl; have k2 := g0.cell (j := 2) (v := .int .i64 vars) rfl; have k3 := g0.cell (j := 3) (v := .slice ra R.length rc) rfl; have k4 := g0.cell (j := 4) (v := .int .i64 sec) rfl; have k5 := g0.cell (j := 5) (v := .slice ha H.length hc) rfl
      go_wp2_with fail
      refine (rSame1_any (some ⟨g, 0, none⟩) a6 c9 c6 L0 L0 w6 slT sl6 (by omega)).mono ?_
      rintro e w7 ⟨rfl, hb7⟩
      rw [decide_eq_true rfl]
      replace g0 := g0.mono hb7
      replace hB := below2 hB hb7
      replace slL := slL.mono hb7
      clear hb7 slT sl6 k0 k1 k2 k3 k4 k5
      replace hH := hH.mono hB
      have k0 := g0.cell (j := 0) (v := .int .u64 p) rfl; have k1 := g0.cell (j := 1) (v := .int .i64 pub) rfl; have k2 := g0.cell (j := 2) (v := .int .i64 vars) rfl; have k3 := g0.cell (j := 3) (v := .slice ra R.length rc) rfl; have k4 := g0.cell (j := 4) (v := .int .i64 sec) rfl; have k5 := g0.cell (j := 5) (v := .slice ha H.length hc) rfl
      go_wp2_with fail
      go_loopw [64] (fun t64 wr => ∃ i : Nat, i ≤ H.length ∧ t64 = .int .i64 i ∧ Below w7.heap.size w7 wr) (fun t64 _ => H.length - (intOf t64).toNat)
      case atStart => exact ⟨0, Nat.zero_le _, rfl, Below.refl _ _⟩
      case round =>
        clear k0 k1 k2 k3 k4 k5
        obtain ⟨i, hi, rfl, hb⟩ := hrel
        by_cases hlt : i < H.length
        · have hlt' : (i : Int) < H.length := by omega
          have hH' := hH.mono hb
          obtain ⟨b, off, e, _, hcc⟩ := hH'.s (by omega)
          obtain ⟨hc0, hc2, hc3, hc4⟩ := hcc i hlt
          obtain ⟨hx, hy, _, _⟩ := hH'.ok _ (getD_mem' hlt default)
          have hgt := hget.out i hlt
          have hcs := hhc.out i hlt
          have hjL : L0.length + i < L.length := by have := hLl.out; omega
          obtain ⟨b2, off2, e2, _, hd⟩ := (slL.mono hb).get hjL
          have slW := slL.mono hb
          cases e2
          clear hcc hH' hget hhc
          generalize H.getD i default = r at *
          obtain ⟨kk, x, y, bit⟩ := r
          simp only at hc0 hc2 hc3 hc4 hx hy hcs
          generalize L.getD (L0.length + i) 0 = v at *
          simp only [Nat.zero_add] at hd
          have h1 := fun e => hgt.trans (hval1 (p := p) (W := L) (h := ⟨kk, x, y, bit⟩) e)
          have h2 := fun e => hgt.trans (hval2 (p := p) (W := L) (h := ⟨kk, x, y, bit⟩) e)
          have h3 := fun e => hgt.trans (hval3 (p := p) (W := L) (h := ⟨kk, x, y, bit⟩) e)
          simp only at h1 h2 h3
          have vb := lval_bd p L x.l
          have vlt := lval_lt hvp.out L x.l
          have cx := fun W hx slW => rValue_any p x (some ⟨g, 0, none⟩) c9 L W hx slW hLW
          have cy := fun W hy slW => rValue_any p y (some ⟨g, 0, none⟩) c9 L W hy slW hLW
          have hBw := (Below.refl wr.heap.size wr).alloc (Nat.le_refl _) (.cells #[.int .i64 kk, .slice x.ad x.l.length x.cap, .slice y.ad y.l.length y.cap, .int .i64 bit] 42)
          have gT : Blk (wr.alloc (.cells #[.int .i64 kk, .slice x.ad x.l.length x.cap, .slice y.ad y.l.length y.cap, .int .i64 bit] 42)) wr.heap.size #[.int .i64 kk, .slice x.ad x.l.length x.cap, .slice y.ad y.l.length y.cap, .int .i64 bit] 42 := Blk.newAt rfl
          replace hx := hx.mono hBw
          replace hy := hy.mono hBw
          replace slW := slW.mono hBw
          replace hb := below2 hb hBw
          replace hd := cell_below hBw hd
          clear hBw hgt slL
          subst e
          rcases hcs with ⟨e1, _⟩ | e1 | ⟨e1, e3, e4⟩
          · have hvv := h1 e1
            subst hvv
            subst e1
            have vby := lval_bd p L y.l
            clear h1 h2 h3 vlt
            generalize lval p L x.l = va at *
            generalize lval p L y.l = vb2 at *
            have cm := fun W => rMul_any p va vb2 W vb.1 vb.2 vby.1 vby.2
            generalize fmul p va vb2 = vm at *
            go_wp2_with fail
            generalize wr.alloc (.cells #[.int .i64 1, .slice x.ad x.l.length x.cap, .slice y.ad y.l.length y.cap, .int .i64 bit] 42) = W at *
            refine (cx W hx slW).mono ?_
            rintro e w8 ⟨rfl, hb8⟩
            replace hy := hy.mono hb8
            replace slW := slW.mono hb8
            replace gT := gT.mono hb8
            replace hb := below2 hb hb8
            clear hb8 cx hx hd hc0 hc2 hc3 hc4
            have t0 := gT.cell (j := 0) (v := .int .i64 1) rfl
            have t2 := gT.cell (j := 2) (v := .slice y.ad y.l.length y.cap) rfl
            go_wp2_with fail
            refine (cy w8 hy slW).mono ?_
            rintro e w9 ⟨rfl, hb9⟩
            replace hb := below2 hb hb9
            clear hb9 cy hy t0 t2 gT slW
            go_wp2_with fail
            refine (cm w9).mono ?_
            rintro e w10 ⟨rfl, hb10⟩
            replace hb := below2 hb hb10
            clear hb10 cm
            go_wp2
            go_roundw
            case rel => exact ⟨i + 1, by omega, by go_num, hb⟩
            case measure => simp [intOf]; omega
          · have hvv := h2 e1
            subst hvv
            subst e1
            clear h1 h2 h3 cy hy
            generalize lval p L x.l = va at *
            have ib := finv_bd p va
            have cm := fun W => rMul_any p va (finv p va) W vb.1 vb.2 ib.1 ib.2
            by_cases hva : va = 0
            · have hvi : finv p va = 0 := by rw [hva]; exact finv_zero hvp.out
              rw [hvi] at cm hd
              clear hvi ib vlt
              subst hva
              generalize fmul p 0 0 = vm at *
              go_wp2_with fail
              generalize wr.alloc (.cells #[.int .i64 2, .slice x.ad x.l.length x.cap, .slice y.ad y.l.length y.cap, .int .i64 bit] 42) = W at *
              refine (cx W hx slW).mono ?_
              rintro e w8 ⟨rfl, hb8⟩
              replace gT := gT.mono hb8
              replace hb := below2 hb hb8
              clear hb8 cx hx hd hc0 hc2 hc3 hc4 slW
              have t0 := gT.cell (j := 0) (v := .int .i64 2) rfl
              go_wp2_with fail
              refine (cm w8).mono ?_
              rintro e w9 ⟨rfl, hb9⟩
              replace hb := below2 hb hb9
              clear hb9 cm t0 gT
              go_wp2
              go_roundw
              case rel => exact ⟨i + 1, by omega, by go_num, hb⟩
              case measure => simp [intOf]; omega
            · have hx1 := fmul_finv hvp.out (show 0 < va by omega) vlt
              rw [hx1] at cm
              have hz1 : (va == 0) = false := by simpa using hva
              have hz2 : (va != 0) = true := by simpa using hva
              replace hva := hide hva
              clear hx1 vlt
              generalize finv p va = vi at *
              go_wp2_with fail
              generalize wr.alloc (.cells #[.int .i64 2, .slice x.ad x.l.length x.cap, .slice y.ad y.l.length y.cap, .int .i64 bit] 42) = W at *
              refine (cx W hx slW).mono ?_
              rintro e w8 ⟨rfl, hb8⟩
              replace gT := gT.mono hb8
              replace hb := below2 hb hb8
              clear hb8 cx hx hd hc0 hc2 hc3 hc4 slW
              have t0 := gT.cell (j := 0) (v := .int .i64 2) rfl
              go_wp2_with fail
              refine (cm w8).mono ?_
              rintro e w9 ⟨rfl, hb9⟩
              replace hb := below2 hb hb9
              clear hb9 cm t0 gT
              go_wp2
              go_roundw
              case rel => exact ⟨i + 1, by omega, by go_num, hb⟩
              case measure => simp [intOf]; omega
          · have hvv := h3 e1
            subst e1
            clear h1 h2 h3 cy hy vlt
            generalize lval p L x.l = va at *
            obtain ⟨q, rfl⟩ := Int.eq_ofNat_of_zero_le vb.1
            obtain ⟨n, rfl⟩ := Int.eq_ofNat_of_zero_le e3
            have hbt := bit_factU q n (by omega)
            have hv2 : v = ((q / 2 ^ n % 2 : Nat) : Int) := by
              rw [hvv, Int.toNat_natCast, show ((2 : Int) ^ n) = ((2 ^ n : Nat) : Int) from (Int.natCast_pow 2 n).symm]
              omega
            clear hvv
            subst hv2
            generalize q / 2 ^ n % 2 = bt at *
            go_wp2_with fail
            generalize wr.alloc (.cells #[.int .i64 3, .slice x.ad x.l.length x.cap, .slice y.ad y.l.length y.cap, .int .i64 n] 42) = W at *
            refine (cx W hx slW).mono ?_
            rintro e w8 ⟨rfl, hb8⟩
            replace gT := gT.mono hb8
            replace hb := below2 hb hb8
            clear hb8 cx hx hd hc0 hc2 hc3 hc4 slW
            have t0 := gT.cell (j := 0) (v := .int .i64 3) rfl
            have t3 := gT.cell (j := 3) (v := .int .i64 n) rfl
            go_wp2
            go_roundw
            case rel => exact ⟨i + 1, by omega, by go_num, hb⟩
            case measure => simp [intOf]; omega
        · obtain rfl : i = H.length := by omega
          go_wp2
          go_ret
          exact ⟨rfl, below2 hB hb⟩

set_option maxRecDepth 100000 in
theorem lifted (os : Os) (started : os.Started) (H : Type) (enc : TypeId × Value → H) :
    ReturnsInHanded {} Try.checked os 6 .any (Rows.assignHintsSpec.pre6 enc Try.prog Try.f6 Rows.assignHintsRow.domain false) (Rows.assignHintsSpec.post enc Try.prog Try.f6 false true false false) := by
  refine returnsInHanded_of_change (C := Try.checked) own started (by kernel_rfl) Try.func6
    (ChangeSpec.witness6 (enc := enc) (C := Try.checked) false ⟨#[], #[.agg #[.int .u64 0, .int .i64 0, .int .i64 0, .slice none 0 0, .int .i64 0, .slice none 0 0], .slice none 0 0, .slice none 0 0], []⟩ 8 (by kernel_rfl) (by kernel_rfl) (by kernel_rfl) (by kernel_rfl)) ?_
  intro W base args ds gs before hval0 hW hcnd _
  have hval : ∀ (j : Nat) t v, Try.f6.params[j]? = some t → args[j]? = some v → Value.okWide Try.prog W .any base t v := hval0
  have hW' := hW
  obtain ⟨p, q, hA0, hV, rfl, hfz, hnd⟩ := hW
  have hA : DataW.TrodAll enc Try.prog W 0 (fun _ => true) true Try.f6.params.toList args.toList ds p := hA0
  rw [Try.params6] at hA hval
  obtain ⟨v0, vs0, d0, ds0, p0, q0, hargs, rfl, rfl, h0, r0⟩ := trodAll_cons hA
  obtain ⟨v1, vs1, d1, ds1, p1, q1, rfl, rfl, rfl, h1, r1⟩ := trodAll_cons r0
  obtain ⟨v2, vs2, d2, ds2, p2, q2, rfl, rfl, rfl, h2, r2⟩ := trodAll_cons r1
  obtain ⟨rfl, rfl, rfl⟩ := trodAll_nil r2
  obtain rfl : args = #[v0, v1, v2] := by cases args; simp_all
  obtain ⟨rfl, rfl⟩ := trodVars_none hV
  have k0 := h0
  have k1 := h1
  have k2 := h2
  obtain ⟨p0, pub0, vars0, ra0, rc0, R0, sec0, ha0, hc0, H0, rfl, wc0, hR0, hH0⟩ := open_circ h0 (hval 0 28 v0 rfl rfl)
  obtain ⟨ad1, cap1, xs1, rfl, S1⟩ := open_slice Try.underlying32 Try.underlying22 (by kernel_rfl) h1 (hval 1 32 v1 rfl rfl) (fun x hx => hW'.lt x (by simp [hx]))
  obtain ⟨ad2, cap2, xs2, rfl, S2⟩ := open_slice Try.underlying32 Try.underlying22 (by kernel_rfl) h2 (hval 2 32 v2 rfl rfl) (fun x hx => hW'.lt x (by simp [hx]))
  clear hA0 hval0
  simp only [List.append_nil] at hW'
  refine (walk p0 pub0 vars0 ra0 rc0 R0 sec0 ha0 hc0 H0 ad1 cap1 xs1 ad2 cap2 xs2 W wc0 hR0 hH0 S1 S2).mono fun e W' ⟨he, hg⟩ => ?_
  subst he
  exact ⟨_, rfl, post_of_below (pv := []) hW' (fun _ _ _ => (trodAll_cons_mk (shut_bool Try.underlying4 _) trodAll_mk0))
    (fun sp _ hsp => by subst hsp; exact (trodAll_cons_mk (Below.trod Try.laidOut (by kernel_rfl) (of_decide_eq_true (by kernel_rfl)) k0 hg (fun x hx => hW'.lt x (by simp [hx]))) (trodAll_cons_mk (Below.trod Try.laidOut (by kernel_rfl) (of_decide_eq_true (by kernel_rfl)) k1 hg (fun x hx => hW'.lt x (by simp [hx]))) (trodAll_cons_mk (Below.trod Try.laidOut (by kernel_rfl) (of_decide_eq_true (by kernel_rfl)) k2 hg (fun x hx => hW'.lt x (by simp [hx]))) trodAll_mk0)))) (fun _ _ => rfl) (by simp) hg⟩

theorem closed : joinedFacts Try.prog 6 Try.f6 Rows.assignHintsSpec Rows.assignHintsRow = true := by
  unfold joinedFacts
  rw [Try.mayEnter, Try.liftsFinal, Try.make]
  kernel_rfl

theorem proved : Rows.AssignHintsSaid :=
  OpenClaim.holds_of_wide 6 Try.f6 rfl rfl rfl rfl rfl rfl rfl ⟨rfl, rfl, rfl, rfl, rfl⟩ rfl rfl rfl rfl rfl (by kernel_rfl) Try.func6 closed
    (of_decide_eq_true (by kernel_rfl)) (by unfold Func.isWrapper; first | (rw [if_pos (by decide +kernel)]; kernel_rfl) | (rw [if_neg (by decide +kernel)]; exact ⟨rfl, rfl⟩))
    (fun os started H enc _ => lifted os started H enc)
#print axioms proved
end assignHints
end Go.Proofs.Ytlflkddgdbdebaa
