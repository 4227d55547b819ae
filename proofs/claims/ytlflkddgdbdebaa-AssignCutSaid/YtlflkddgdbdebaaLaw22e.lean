/- AssignCut: without the last hint and the last variable, and without rows, the assignment is the same without its last element. -/
import Derived.Test.YtlflkddgdbdebaaCutM
import Derived.Test.YtlflkddgdbdebaaSeg
import Derived.BigRegion
namespace Go.Proofs.Ytlflkddgdbdebaa
open Go.ChangeShapes Go.WideShapes Go.ChangeAt Go.RowKit
namespace assignCut

set_option maxRecDepth 10000 in
set_option maxHeartbeats 8000000 in
theorem walk (p pub vars : Int) (ra : Option Addr) (rc : Nat) (R : List Rw) (sec : Int) (ha : Option Addr) (hc : Nat) (H : List Hn) (ua : Option Addr) (uc : Nat) (u : List Int) (sa : Option Addr) (sc : Nat) (s : List Int) (w : World)
    (hwf : (Lit.int .u64 p).wf = true ∧ (Lit.int .i64 pub).wf = true ∧ (Lit.int .i64 vars).wf = true ∧ (Lit.int .i64 sec).wf = true) (hR : RowsP w ra rc R) (hH : HintsP w ha hc H) (SU : SlP w .u64 ua uc u) (SS : SlP w .u64 sa sc s) :
    Calls Try.prog 7 #[.agg #[.int .u64 p, .int .i64 pub, .int .i64 vars, .slice ra R.length rc, .int .i64 sec, .slice ha H.length hc], .slice ua u.length uc, .slice sa s.length sc] w fun e w' => e = .returned (.bool true) ∧ Below w.heap.size w w' := by
  have hu := SU.sl
  have hs := SS.sl
  have hAu := wfs_u64 SU.wf
  have hAs := wfs_u64 SS.wf
  have hun := slp_len SU
  have hsn := slp_len SS
  clear SU SS
  have cSh := fun (b : Nat) W h1 h2 g => short2_any p pub vars ra R rc sec ha H hc b ua uc u sa sc s W h1 h2 g hun hsn
  replace hun := hide hun
  replace hsn := hide hsn
  have cA := fun (x : Option Addr) (xc : Nat) (y : Option Addr) (yc : Nat) W h1 h2 h3 h4 => aRun_any p pub vars ra R rc sec ha H hc x xc u y yc s W h1 h2 hwf.2.2.2 h3 h4 hAu hAs
  obtain ⟨K0, hK0⟩ : ∃ K0, K0 = runOk p pub vars R sec H u s := ⟨_, rfl⟩
  obtain ⟨S, hS⟩ : ∃ S, S = shortC R H u s := ⟨_, rfl⟩
  rw [← hS] at cSh
  cases S with
  | false =>
    clear hS cA hAu hAs hu hs hwf hK0
    go_enter Try.func7, Try.ntmps7
    go_wp2_with fail
    refine name_calls fun W hN => ?_
    have g0 : Blk W w.heap.size #[.int .u64 p, .int .i64 pub, .int .i64 vars, .slice ra R.length rc, .int .i64 sec, .slice ha H.length hc] 28 := by rw [hN]; exact Blk.newAt rfl
    have hB : Below w.heap.size w W := by rw [hN]; exact (Below.refl _ _).alloc (Nat.le_refl _) _
    clear hN
    refine (awake22 W).mono ?_
    rintro e w1 ⟨rfl, hb1⟩
    replace g0 := g0.mono hb1
    replace hB := below2 hB hb1
    clear hb1
    have k0 := g0.cell (j := 0) (v := .int .u64 p) rfl; have k1 := g0.cell (j := 1) (v := .int .i64 pub) rfl; have k2 := g0.cell (j := 2) (v := .int .i64 vars) rfl; have k3 := g0.cell (j := 3) (v := .slice ra R.length rc) rfl; have k4 := g0.cell (j := 4) (v := .int .i64 sec) rfl; have k5 := g0.cell (j := 5) (v := .slice ha H.length hc) rfl
    have hg0 := g0.lt
    go_wp2_with fail
    refine name_calls fun W2 hN => ?_
    have hb2 : Below w1.heap.size w1 W2 := by rw [hN]; exact (Below.refl _ _).alloc (Nat.le_refl _) _
    have gS : Blk W2 w1.heap.size #[.slice ua u.length uc, .slice sa s.length sc] 32 := by rw [hN]; exact Blk.newAt rfl
    clear hN k0 k1 k2 k3 k4 k5 hg0
    replace g0 := g0.mono hb2
    replace hB := below2 hB hb2
    clear hb2
    refine (cSh _ W2 (hR.mono hB) (hH.mono hB) gS).mono ?_
    rintro e w3 ⟨rfl, hb3⟩
    replace g0 := g0.mono hb3
    replace hB := below2 hB hb3
    clear hb3 gS cSh
    have k0 := g0.cell (j := 0) (v := .int .u64 p) rfl; have k1 := g0.cell (j := 1) (v := .int .i64 pub) rfl; have k2 := g0.cell (j := 2) (v := .int .i64 vars) rfl; have k3 := g0.cell (j := 3) (v := .slice ra R.length rc) rfl; have k4 := g0.cell (j := 4) (v := .int .i64 sec) rfl; have k5 := g0.cell (j := 5) (v := .slice ha H.length hc) rfl
    go_wp2
    go_ret
    exact ⟨rfl, hB⟩
  | true =>
    obtain ⟨hl1, hl2⟩ := short_len hS.symm
    clear hS
    cases hH0 : H.length with
    | zero =>
      rw [hH0] at cSh
      replace hH0 := hide hH0
      clear cA hAu hAs hu hs hwf hK0
      go_enter Try.func7, Try.ntmps7
      go_wp2_with fail
      refine name_calls fun W hN => ?_
      have g0 : Blk W w.heap.size #[.int .u64 p, .int .i64 pub, .int .i64 vars, .slice ra R.length rc, .int .i64 sec, .slice ha 0 hc] 28 := by rw [hN]; exact Blk.newAt rfl
      have hB : Below w.heap.size w W := by rw [hN]; exact (Below.refl _ _).alloc (Nat.le_refl _) _
      clear hN
      refine (awake22 W).mono ?_
      rintro e w1 ⟨rfl, hb1⟩
      replace g0 := g0.mono hb1
      replace hB := below2 hB hb1
      clear hb1
      have k0 := g0.cell (j := 0) (v := .int .u64 p) rfl; have k1 := g0.cell (j := 1) (v := .int .i64 pub) rfl; have k2 := g0.cell (j := 2) (v := .int .i64 vars) rfl; have k3 := g0.cell (j := 3) (v := .slice ra R.length rc) rfl; have k4 := g0.cell (j := 4) (v := .int .i64 sec) rfl; have k5 := g0.cell (j := 5) (v := .slice ha 0 hc) rfl
      have hg0 := g0.lt
      go_wp2_with fail
      refine name_calls fun W2 hN => ?_
      have hb2 : Below w1.heap.size w1 W2 := by rw [hN]; exact (Below.refl _ _).alloc (Nat.le_refl _) _
      have gS : Blk W2 w1.heap.size #[.slice ua u.length uc, .slice sa s.length sc] 32 := by rw [hN]; exact Blk.newAt rfl
      clear hN k0 k1 k2 k3 k4 k5 hg0
      replace g0 := g0.mono hb2
      replace hB := below2 hB hb2
      clear hb2
      refine (cSh _ W2 (hR.mono hB) (hH.mono hB) gS).mono ?_
      rintro e w3 ⟨rfl, hb3⟩
      replace g0 := g0.mono hb3
      replace hB := below2 hB hb3
      clear hb3 gS cSh
      have k0 := g0.cell (j := 0) (v := .int .u64 p) rfl; have k1 := g0.cell (j := 1) (v := .int .i64 pub) rfl; have k2 := g0.cell (j := 2) (v := .int .i64 vars) rfl; have k3 := g0.cell (j := 3) (v := .slice ra R.length rc) rfl; have k4 := g0.cell (j := 4) (v := .int .i64 sec) rfl; have k5 := g0.cell (j := 5) (v := .slice ha 0 hc) rfl
      go_wp2
      go_ret
      exact ⟨rfl, hB⟩
    | succ n =>
      have hn := hH0
      rw [hH0] at cSh cA
      have hH' := fun W (h : HintsP W ha hc H) => h.cut (k := n) (by omega)
      have hl' : (H.take n).length = n := by rw [List.length_take]; omega
      have cD := fun (x : Option Addr) (xc : Nat) (y : Option Addr) (yc : Nat) W h2 h3 h4 => aRun_any p pub (vars - 1) none [] 0 sec ha (H.take n) hc x xc u y yc s W (RowsP.empty W) h2 hwf.2.2.2 h3 h4 hAu hAs
      have cE := fun (x : Option Addr) (xc : Nat) (y : Option Addr) (yc : Nat) W h2 h3 h4 => aSat_any p pub (vars - 1) none [] 0 sec ha (H.take n) hc x xc u y yc s W (RowsP.empty W) h2 hwf.2.2.2 h3 h4 hAu hAs
      have hlen9 := runL_len (p := p) (pub := pub) (vars := vars) (R := R) (sec := sec) (H := H) (u := u) (s := s)
      simp only [List.length_nil, hl'] at cD cE
      clear hwf
      cases K0 with
      | false =>
        obtain ⟨e1, e2, _, _⟩ := runE_no hK0.symm
        rw [e1, e2] at cA
        replace hH0 := hide hH0
        replace hn := hide hn
        clear e1 e2 hK0 hAu hAs cD cE hH' hl' hlen9
        go_enter Try.func7, Try.ntmps7
        go_wp2_with fail
        refine name_calls fun W hN => ?_
        have g0 : Blk W w.heap.size #[.int .u64 p, .int .i64 pub, .int .i64 vars, .slice ra R.length rc, .int .i64 sec, .slice ha (n + 1) hc] 28 := by rw [hN]; exact Blk.newAt rfl
        have hB : Below w.heap.size w W := by rw [hN]; exact (Below.refl _ _).alloc (Nat.le_refl _) _
        clear hN
        refine (awake22 W).mono ?_
        rintro e w1 ⟨rfl, hb1⟩
        replace g0 := g0.mono hb1
        replace hB := below2 hB hb1
        clear hb1
        have k0 := g0.cell (j := 0) (v := .int .u64 p) rfl; have k1 := g0.cell (j := 1) (v := .int .i64 pub) rfl; have k2 := g0.cell (j := 2) (v := .int .i64 vars) rfl; have k3 := g0.cell (j := 3) (v := .slice ra R.length rc) rfl; have k4 := g0.cell (j := 4) (v := .int .i64 sec) rfl; have k5 := g0.cell (j := 5) (v := .slice ha (n + 1) hc) rfl
        have hg0 := g0.lt
        go_wp2_with fail
        refine name_calls fun W2 hN => ?_
        have hb2 : Below w1.heap.size w1 W2 := by rw [hN]; exact (Below.refl _ _).alloc (Nat.le_refl _) _
        have gS : Blk W2 w1.heap.size #[.slice ua u.length uc, .slice sa s.length sc] 32 := by rw [hN]; exact Blk.newAt rfl
        clear hN k0 k1 k2 k3 k4 k5 hg0
        replace g0 := g0.mono hb2
        replace hB := below2 hB hb2
        clear hb2
        refine (cSh _ W2 (hR.mono hB) (hH.mono hB) gS).mono ?_
        rintro e w3 ⟨rfl, hb3⟩
        replace g0 := g0.mono hb3
        replace hB := below2 hB hb3
        clear hb3 gS cSh
        have k0 := g0.cell (j := 0) (v := .int .u64 p) rfl; have k1 := g0.cell (j := 1) (v := .int .i64 pub) rfl; have k2 := g0.cell (j := 2) (v := .int .i64 vars) rfl; have k3 := g0.cell (j := 3) (v := .slice ra R.length rc) rfl; have k4 := g0.cell (j := 4) (v := .int .i64 sec) rfl; have k5 := g0.cell (j := 5) (v := .slice ha (n + 1) hc) rfl
        go_wp2_with fail
        clear k0 k1 k2 k3 k4 k5
        refine Rel.region_any Try.mixed fun w3d hbd => ?_
        replace g0 := g0.mono hbd
        replace hB := below2 hB hbd
        clear hbd
        refine Rel.any_seg_k 7 [] (by kernel_rfl) fun K hK => ?_
        have k0 := cell_later' (g0.cell (j := 0) (v := .int .u64 p) rfl); have k1 := cell_later' (g0.cell (j := 1) (v := .int .i64 pub) rfl); have k2 := cell_later' (g0.cell (j := 2) (v := .int .i64 vars) rfl); have k3 := cell_later' (g0.cell (j := 3) (v := .slice ra R.length rc) rfl); have k4 := cell_later' (g0.cell (j := 4) (v := .int .i64 sec) rfl); have k5 := cell_later' (g0.cell (j := 5) (v := .slice ha (n + 1) hc) rfl)
        simp only [List.take_succ_cons, List.take_zero]
        refine Rel.any_mix (w0 := w3d) 5 [] [(2, fun v w => Own w w3d.heap.size 22 .u64 v u), (4, fun v w => Own w w3d.heap.size 22 .u64 v s)] ⟨⟨w3d.drawn, #[]⟩, by simp [later]⟩ (by kernel_rfl) (by kernel_rfl) ?_ ?_
        · intro z hz v q q' h1 h2
          simp only [List.mem_cons, List.not_mem_nil, or_false] at hz
          rcases hz with rfl | rfl
          · exact Own.mono h1 h2
          · exact Own.mono h1 h2
        simp only [List.take_succ_cons, List.take_zero, List.drop_succ_cons, List.drop_zero, List.map_cons, List.map_nil]
        repeat (first | (refine Rel.wpA_b (by rfl) ?_) | (refine Rel.wpA_step (by rfl) fun K hK => ?_; go_simp; refine hK _ ?_; clear hK K))
        refine Rel.wpA_nil ?_
        refine Rel.wpB_step _ rfl rfl (fun p' hx => ?_) (fun x2 => ?_)
        · refine rU_of (fr := false) (r := .ok (.enter 15 #[.slice ua u.length uc]) (later w3d p')) (by kernel_rfl) (by kernel_rfl) ?_
          exact rU_sl (own22_any ua uc u _ ((hu.mono hB).mono (below_later _ _)) (by omega))
        refine Rel.wpB_step _ rfl rfl (fun p' hx => ?_) (fun x4 => ?_)
        · refine rU_of (fr := false) (r := .ok (.enter 15 #[.slice sa s.length sc]) (later w3d p')) (by kernel_rfl) (by kernel_rfl) ?_
          exact rU_sl (own22_any sa sc s _ ((hs.mono hB).mono (below_later _ _)) (by omega))
        refine Rel.wpB_nil ?_
        intro p' hctx hfr
        simp only [List.nil_append, List.cons_append, List.mem_cons, List.not_mem_nil, or_false, forall_eq_or_imp, forall_eq] at hctx
        obtain ⟨own2, own4⟩ := hctx
        have hbo := below_later w3d p'
        clear hfr k0 k1 k2 k3 k4 k5
        generalize later w3d p' = w3e at *
        replace g0 := g0.mono hbo
        replace hB := below2 hB hbo
        clear hbo
        obtain ⟨ad2, c2', rfl, sl2, _, _⟩ := Own.sl own2
        obtain ⟨ad4, c4', rfl, sl4, _, _⟩ := Own.sl own4
        clear own2 own4
        go_wp2_with fail
        refine (cA ad2 c2' ad4 c4' w3e (hR.mono hB) (hH.mono hB) sl2 sl4).mono ?_
        rintro e w3f ⟨v9, rfl, own_v9, hbo⟩
        replace g0 := g0.mono hbo
        replace hB := below2 hB hbo
        clear hbo sl2 sl4
        go_wp2_with fail
        refine hK _ _ (by kernel_rfl) ?_
        clear hK K
        refine Rel.any_later_tail 10 (by kernel_rfl) ?_
        simp only [Rel.seg2]
        repeat (first | simp only [List.take_succ_cons] | simp only [List.take_zero] | simp only [List.drop_succ_cons] | simp only [List.drop_zero] | simp only [Nat.reduceAdd] | simp only [Nat.reduceLT] | simp only [if_true] | simp only [if_false] | simp only [Rel.quietOp] | simp only [Rel.laterOp] | simp only [List.contains_nil] | simp only [List.contains_cons] | simp only [Nat.reduceBEq] | simp only [Bool.or_false] | simp only [Bool.false_or] | simp only [Bool.or_self] | simp only [Bool.true_or] | simp only [Bool.or_true] | simp only [Bool.false_eq_true])
        repeat (first | go_big_quiet_step (first | fail) | quiet_step (first | fail))
        refine wpQuiet_nil ?_
        intro w4 hbo
        replace hbo := below_of_later hbo
        replace g0 := g0.mono hbo
        replace hB := below2 hB hbo
        replace own_v9 := own_v9.mono hbo
        clear hbo
        go_wp2
        go_ret
        exact ⟨rfl, hB⟩
      | true =>
        obtain ⟨N, z, hN1, hN2, hN3, hN4, hN5⟩ := cut_all hK0.symm hn
        have e1 := (runE_of hK0.symm).1
        rw [e1, hN1] at cA
        rw [hN2, hN3] at cD
        rw [hN4, hN5] at cE
        have hLn : (N ++ [z]).length = N.length + 1 := by simp
        have htk : (N ++ [z]).take N.length = N := by simp
        rw [hN1, hLn] at hlen9
        have hvd : -9223372036854775808 ≤ vars - 1 ∧ vars - 1 ≤ 9223372036854775807 := by
          have hro := hK0.symm
          unfold runOk at hro
          rw [Bool.and_eq_true] at hro
          obtain ⟨hT, _⟩ := cir_bd hro.1
          obtain ⟨_, hp0, hp1, hp2, _⟩ := tbl_bd hT
          omega
        obtain ⟨vd, hvd2⟩ : ∃ vd, vd = vars - 1 := ⟨_, rfl⟩
        rw [← hvd2] at cD cE
        have hn64 : n ≤ 65536 := by
          have hro := hK0.symm
          unfold runOk at hro
          rw [Bool.and_eq_true] at hro
          obtain ⟨hT, _, hv, _⟩ := cir_bd hro.1
          obtain ⟨_, hp0, hp1, hp2, _⟩ := tbl_bd hT
          omega
        replace hH0 := hide hH0
        replace hn := hide hn
        replace hLn := hide hLn
        replace htk := hide htk
        replace hvd2 := hide hvd2
        clear e1 hK0 hAu hAs hl' hN1 hN2 hN3 hN4 hN5
        go_enter Try.func7, Try.ntmps7
        go_wp2_with fail
        refine name_calls fun W hN => ?_
        have g0 : Blk W w.heap.size #[.int .u64 p, .int .i64 pub, .int .i64 vars, .slice ra R.length rc, .int .i64 sec, .slice ha (n + 1) hc] 28 := by rw [hN]; exact Blk.newAt rfl
        have hB : Below w.heap.size w W := by rw [hN]; exact (Below.refl _ _).alloc (Nat.le_refl _) _
        clear hN
        refine (awake22 W).mono ?_
        rintro e w1 ⟨rfl, hb1⟩
        replace g0 := g0.mono hb1
        replace hB := below2 hB hb1
        clear hb1
        have k0 := g0.cell (j := 0) (v := .int .u64 p) rfl; have k1 := g0.cell (j := 1) (v := .int .i64 pub) rfl; have k2 := g0.cell (j := 2) (v := .int .i64 vars) rfl; have k3 := g0.cell (j := 3) (v := .slice ra R.length rc) rfl; have k4 := g0.cell (j := 4) (v := .int .i64 sec) rfl; have k5 := g0.cell (j := 5) (v := .slice ha (n + 1) hc) rfl
        have hg0 := g0.lt
        go_wp2_with fail
        refine name_calls fun W2 hN => ?_
        have hb2 : Below w1.heap.size w1 W2 := by rw [hN]; exact (Below.refl _ _).alloc (Nat.le_refl _) _
        have gS : Blk W2 w1.heap.size #[.slice ua u.length uc, .slice sa s.length sc] 32 := by rw [hN]; exact Blk.newAt rfl
        clear hN k0 k1 k2 k3 k4 k5 hg0
        replace g0 := g0.mono hb2
        replace hB := below2 hB hb2
        clear hb2
        refine (cSh _ W2 (hR.mono hB) (hH.mono hB) gS).mono ?_
        rintro e w3 ⟨rfl, hb3⟩
        replace g0 := g0.mono hb3
        replace hB := below2 hB hb3
        clear hb3 gS cSh
        have k0 := g0.cell (j := 0) (v := .int .u64 p) rfl; have k1 := g0.cell (j := 1) (v := .int .i64 pub) rfl; have k2 := g0.cell (j := 2) (v := .int .i64 vars) rfl; have k3 := g0.cell (j := 3) (v := .slice ra R.length rc) rfl; have k4 := g0.cell (j := 4) (v := .int .i64 sec) rfl; have k5 := g0.cell (j := 5) (v := .slice ha (n + 1) hc) rfl
        go_wp2_with fail
        clear k0 k1 k2 k3 k4 k5
        refine Rel.region_any Try.mixed fun w3d hbd => ?_
        replace g0 := g0.mono hbd
        replace hB := below2 hB hbd
        clear hbd
        refine Rel.any_seg_k 7 [] (by kernel_rfl) fun K hK => ?_
        have k0 := cell_later' (g0.cell (j := 0) (v := .int .u64 p) rfl); have k1 := cell_later' (g0.cell (j := 1) (v := .int .i64 pub) rfl); have k2 := cell_later' (g0.cell (j := 2) (v := .int .i64 vars) rfl); have k3 := cell_later' (g0.cell (j := 3) (v := .slice ra R.length rc) rfl); have k4 := cell_later' (g0.cell (j := 4) (v := .int .i64 sec) rfl); have k5 := cell_later' (g0.cell (j := 5) (v := .slice ha (n + 1) hc) rfl)
        simp only [List.take_succ_cons, List.take_zero]
        refine Rel.any_mix (w0 := w3d) 5 [] [(2, fun v w => Own w w3d.heap.size 22 .u64 v u), (4, fun v w => Own w w3d.heap.size 22 .u64 v s)] ⟨⟨w3d.drawn, #[]⟩, by simp [later]⟩ (by kernel_rfl) (by kernel_rfl) ?_ ?_
        · intro z hz v q q' h1 h2
          simp only [List.mem_cons, List.not_mem_nil, or_false] at hz
          rcases hz with rfl | rfl
          · exact Own.mono h1 h2
          · exact Own.mono h1 h2
        simp only [List.take_succ_cons, List.take_zero, List.drop_succ_cons, List.drop_zero, List.map_cons, List.map_nil]
        repeat (first | (refine Rel.wpA_b (by rfl) ?_) | (refine Rel.wpA_step (by rfl) fun K hK => ?_; go_simp; refine hK _ ?_; clear hK K))
        refine Rel.wpA_nil ?_
        refine Rel.wpB_step _ rfl rfl (fun p' hx => ?_) (fun x2 => ?_)
        · refine rU_of (fr := false) (r := .ok (.enter 15 #[.slice ua u.length uc]) (later w3d p')) (by kernel_rfl) (by kernel_rfl) ?_
          exact rU_sl (own22_any ua uc u _ ((hu.mono hB).mono (below_later _ _)) (by omega))
        refine Rel.wpB_step _ rfl rfl (fun p' hx => ?_) (fun x4 => ?_)
        · refine rU_of (fr := false) (r := .ok (.enter 15 #[.slice sa s.length sc]) (later w3d p')) (by kernel_rfl) (by kernel_rfl) ?_
          exact rU_sl (own22_any sa sc s _ ((hs.mono hB).mono (below_later _ _)) (by omega))
        refine Rel.wpB_nil ?_
        intro p' hctx hfr
        simp only [List.nil_append, List.cons_append, List.mem_cons, List.not_mem_nil, or_false, forall_eq_or_imp, forall_eq] at hctx
        obtain ⟨own2, own4⟩ := hctx
        have hbo := below_later w3d p'
        clear hfr k0 k1 k2 k3 k4 k5
        generalize later w3d p' = w3e at *
        replace g0 := g0.mono hbo
        replace hB := below2 hB hbo
        clear hbo
        obtain ⟨ad2, c2', rfl, sl2, _, _⟩ := Own.sl own2
        obtain ⟨ad4, c4', rfl, sl4, _, _⟩ := Own.sl own4
        clear own2 own4
        go_wp2_with fail
        refine (cA ad2 c2' ad4 c4' w3e (hR.mono hB) (hH.mono hB) sl2 sl4).mono ?_
        rintro e w3f ⟨v9, rfl, own_v9, hbo⟩
        replace g0 := g0.mono hbo
        replace hB := below2 hB hbo
        clear hbo sl2 sl4
        go_wp2_with fail
        refine hK _ _ (by kernel_rfl) ?_
        clear hK K
        refine Rel.any_later_tail 10 (by kernel_rfl) ?_
        simp only [Rel.seg2]
        repeat (first | simp only [List.take_succ_cons] | simp only [List.take_zero] | simp only [List.drop_succ_cons] | simp only [List.drop_zero] | simp only [Nat.reduceAdd] | simp only [Nat.reduceLT] | simp only [if_true] | simp only [if_false] | simp only [Rel.quietOp] | simp only [Rel.laterOp] | simp only [List.contains_nil] | simp only [List.contains_cons] | simp only [Nat.reduceBEq] | simp only [Bool.or_false] | simp only [Bool.false_or] | simp only [Bool.or_self] | simp only [Bool.true_or] | simp only [Bool.or_true] | simp only [Bool.false_eq_true])
        repeat (first | go_big_quiet_step (first | fail) | quiet_step (first | fail))
        refine wpQuiet_nil ?_
        intro w4 hbo
        replace hbo := below_of_later hbo
        replace g0 := g0.mono hbo
        replace hB := below2 hB hbo
        replace own_v9 := own_v9.mono hbo
        clear hbo
        clear cA
        have k0 := g0.cell (j := 0) (v := .int .u64 p) rfl; have k1 := g0.cell (j := 1) (v := .int .i64 pub) rfl; have k2 := g0.cell (j := 2) (v := .int .i64 vars) rfl; have k3 := g0.cell (j := 3) (v := .slice ra R.length rc) rfl; have k4 := g0.cell (j := 4) (v := .int .i64 sec) rfl; have k5 := g0.cell (j := 5) (v := .slice ha (n + 1) hc) rfl
        have hg0 := g0.lt
        go_wp2_with fail
        have hw1 : IntKind.i64.wrap (n : Int) = n := by rw [IntKind.wrap_i64]; omega
        have hw2 : IntKind.i64.wrap (vars - 1) = vd := by rw [IntKind.wrap_i64, hvd2.out]; omega
        have hnc : n ≤ hc := by have := (hH.mono hB).le; have := hn.out; omega
        go_region
        clear hw1 hw2 hnc k0 k1 k2 k3 k4 k5
        go_wp2_with fail
        refine name_world fun w5 hN => ?_
        have gd : Blk w5 w4.heap.size #[.int .u64 p, .int .i64 pub, .int .i64 vd, .slice none 0 0, .int .i64 sec, .slice ha n hc] 28 := by rw [hN]; exact (Blk.newAt (b := w4.heap.size) rfl).mono (Below.refl _ _).drew
        have hbd : Below w4.heap.size w4 w5 := by rw [hN]; exact ((Below.refl _ _).alloc (Nat.le_refl _) _).drew
        clear hN
        replace own_v9 := own_v9.mono hbd
        replace hB := below2 hB hbd
        clear hbd g0 hg0
        refine Rel.region_any Try.mixed fun w5d hbd => ?_
        replace gd := gd.mono hbd
        replace own_v9 := own_v9.mono hbd
        replace hB := below2 hB hbd
        clear hbd
        refine Rel.any_seg_k 7 [] (by kernel_rfl) fun K hK => ?_
        have k0 := cell_later' (gd.cell (j := 0) (v := .int .u64 p) rfl); have k1 := cell_later' (gd.cell (j := 1) (v := .int .i64 pub) rfl); have k2 := cell_later' (gd.cell (j := 2) (v := .int .i64 vd) rfl); have k3 := cell_later' (gd.cell (j := 3) (v := .slice none 0 0) rfl); have k4 := cell_later' (gd.cell (j := 4) (v := .int .i64 sec) rfl); have k5 := cell_later' (gd.cell (j := 5) (v := .slice ha n hc) rfl)
        simp only [List.take_succ_cons, List.take_zero]
        refine Rel.any_mix (w0 := w5d) 5 [] [(2, fun v w => Own w w5d.heap.size 22 .u64 v u), (4, fun v w => Own w w5d.heap.size 22 .u64 v s)] ⟨⟨w5d.drawn, #[]⟩, by simp [later]⟩ (by kernel_rfl) (by kernel_rfl) ?_ ?_
        · intro z hz v q q' h1 h2
          simp only [List.mem_cons, List.not_mem_nil, or_false] at hz
          rcases hz with rfl | rfl
          · exact Own.mono h1 h2
          · exact Own.mono h1 h2
        simp only [List.take_succ_cons, List.take_zero, List.drop_succ_cons, List.drop_zero, List.map_cons, List.map_nil]
        repeat (first | (refine Rel.wpA_b (by rfl) ?_) | (refine Rel.wpA_step (by rfl) fun K hK => ?_; go_simp; refine hK _ ?_; clear hK K))
        refine Rel.wpA_nil ?_
        refine Rel.wpB_step _ rfl rfl (fun p' hx => ?_) (fun x2 => ?_)
        · refine rU_of (fr := false) (r := .ok (.enter 15 #[.slice ua u.length uc]) (later w5d p')) (by kernel_rfl) (by kernel_rfl) ?_
          exact rU_sl (own22_any ua uc u _ ((hu.mono hB).mono (below_later _ _)) (by omega))
        refine Rel.wpB_step _ rfl rfl (fun p' hx => ?_) (fun x4 => ?_)
        · refine rU_of (fr := false) (r := .ok (.enter 15 #[.slice sa s.length sc]) (later w5d p')) (by kernel_rfl) (by kernel_rfl) ?_
          exact rU_sl (own22_any sa sc s _ ((hs.mono hB).mono (below_later _ _)) (by omega))
        refine Rel.wpB_nil ?_
        intro p' hctx hfr
        simp only [List.nil_append, List.cons_append, List.mem_cons, List.not_mem_nil, or_false, forall_eq_or_imp, forall_eq] at hctx
        obtain ⟨own2, own4⟩ := hctx
        have hbo := below_later w5d p'
        clear hfr k0 k1 k2 k3 k4 k5
        generalize later w5d p' = w5e at *
        replace gd := gd.mono hbo
        replace own_v9 := own_v9.mono hbo
        replace hB := below2 hB hbo
        clear hbo
        obtain ⟨ad2, c2', rfl, sl2, _, _⟩ := Own.sl own2
        obtain ⟨ad4, c4', rfl, sl4, _, _⟩ := Own.sl own4
        clear own2 own4
        go_wp2_with fail
        refine (cD ad2 c2' ad4 c4' w5e (hH' _ (hH.mono hB)) sl2 sl4).mono ?_
        rintro e w5f ⟨v10, rfl, own_v10, hbo⟩
        replace gd := gd.mono hbo
        replace own_v9 := own_v9.mono hbo
        replace hB := below2 hB hbo
        clear hbo sl2 sl4
        go_wp2_with fail
        refine hK _ _ (by kernel_rfl) ?_
        clear hK K
        refine Rel.any_later_tail 10 (by kernel_rfl) ?_
        simp only [Rel.seg2]
        repeat (first | simp only [List.take_succ_cons] | simp only [List.take_zero] | simp only [List.drop_succ_cons] | simp only [List.drop_zero] | simp only [Nat.reduceAdd] | simp only [Nat.reduceLT] | simp only [if_true] | simp only [if_false] | simp only [Rel.quietOp] | simp only [Rel.laterOp] | simp only [List.contains_nil] | simp only [List.contains_cons] | simp only [Nat.reduceBEq] | simp only [Bool.or_false] | simp only [Bool.false_or] | simp only [Bool.or_self] | simp only [Bool.true_or] | simp only [Bool.or_true] | simp only [Bool.false_eq_true])
        repeat (first | go_big_quiet_step (first | fail) | quiet_step (first | fail))
        refine wpQuiet_nil ?_
        intro w6 hbo
        replace hbo := below_of_later hbo
        replace gd := gd.mono hbo
        replace own_v9 := own_v9.mono hbo
        replace hB := below2 hB hbo
        replace own_v10 := own_v10.mono hbo
        clear hbo
        clear cD
        go_wp2_with fail
        refine Rel.region_any Try.mixed fun w6d hbd => ?_
        replace gd := gd.mono hbd
        replace own_v9 := own_v9.mono hbd
        replace own_v10 := own_v10.mono hbd
        replace hB := below2 hB hbd
        clear hbd
        refine Rel.any_seg_k 7 [] (by kernel_rfl) fun K hK => ?_
        have k0 := cell_later' (gd.cell (j := 0) (v := .int .u64 p) rfl); have k1 := cell_later' (gd.cell (j := 1) (v := .int .i64 pub) rfl); have k2 := cell_later' (gd.cell (j := 2) (v := .int .i64 vd) rfl); have k3 := cell_later' (gd.cell (j := 3) (v := .slice none 0 0) rfl); have k4 := cell_later' (gd.cell (j := 4) (v := .int .i64 sec) rfl); have k5 := cell_later' (gd.cell (j := 5) (v := .slice ha n hc) rfl)
        simp only [List.take_succ_cons, List.take_zero]
        refine Rel.any_mix (w0 := w6d) 5 [] [(2, fun v w => Own w w6d.heap.size 22 .u64 v u), (4, fun v w => Own w w6d.heap.size 22 .u64 v s)] ⟨⟨w6d.drawn, #[]⟩, by simp [later]⟩ (by kernel_rfl) (by kernel_rfl) ?_ ?_
        · intro z hz v q q' h1 h2
          simp only [List.mem_cons, List.not_mem_nil, or_false] at hz
          rcases hz with rfl | rfl
          · exact Own.mono h1 h2
          · exact Own.mono h1 h2
        simp only [List.take_succ_cons, List.take_zero, List.drop_succ_cons, List.drop_zero, List.map_cons, List.map_nil]
        repeat (first | (refine Rel.wpA_b (by rfl) ?_) | (refine Rel.wpA_step (by rfl) fun K hK => ?_; go_simp; refine hK _ ?_; clear hK K))
        refine Rel.wpA_nil ?_
        refine Rel.wpB_step _ rfl rfl (fun p' hx => ?_) (fun x2 => ?_)
        · refine rU_of (fr := false) (r := .ok (.enter 15 #[.slice ua u.length uc]) (later w6d p')) (by kernel_rfl) (by kernel_rfl) ?_
          exact rU_sl (own22_any ua uc u _ ((hu.mono hB).mono (below_later _ _)) (by omega))
        refine Rel.wpB_step _ rfl rfl (fun p' hx => ?_) (fun x4 => ?_)
        · refine rU_of (fr := false) (r := .ok (.enter 15 #[.slice sa s.length sc]) (later w6d p')) (by kernel_rfl) (by kernel_rfl) ?_
          exact rU_sl (own22_any sa sc s _ ((hs.mono hB).mono (below_later _ _)) (by omega))
        refine Rel.wpB_nil ?_
        intro p' hctx hfr
        simp only [List.nil_append, List.cons_append, List.mem_cons, List.not_mem_nil, or_false, forall_eq_or_imp, forall_eq] at hctx
        obtain ⟨own2, own4⟩ := hctx
        have hbo := below_later w6d p'
        clear hfr k0 k1 k2 k3 k4 k5
        generalize later w6d p' = w6e at *
        replace gd := gd.mono hbo
        replace own_v9 := own_v9.mono hbo
        replace own_v10 := own_v10.mono hbo
        replace hB := below2 hB hbo
        clear hbo
        obtain ⟨ad2, c2', rfl, sl2, _, _⟩ := Own.sl own2
        obtain ⟨ad4, c4', rfl, sl4, _, _⟩ := Own.sl own4
        clear own2 own4
        go_wp2_with fail
        refine (cE ad2 c2' ad4 c4' w6e (hH' _ (hH.mono hB)) sl2 sl4).mono ?_
        rintro e w6f ⟨v12, rfl, own_v12, hbo⟩
        replace gd := gd.mono hbo
        replace own_v9 := own_v9.mono hbo
        replace own_v10 := own_v10.mono hbo
        replace hB := below2 hB hbo
        clear hbo sl2 sl4
        go_wp2_with fail
        refine hK _ _ (by kernel_rfl) ?_
        clear hK K
        refine Rel.any_later_tail 10 (by kernel_rfl) ?_
        simp only [Rel.seg2]
        repeat (first | simp only [List.take_succ_cons] | simp only [List.take_zero] | simp only [List.drop_succ_cons] | simp only [List.drop_zero] | simp only [Nat.reduceAdd] | simp only [Nat.reduceLT] | simp only [if_true] | simp only [if_false] | simp only [Rel.quietOp] | simp only [Rel.laterOp] | simp only [List.contains_nil] | simp only [List.contains_cons] | simp only [Nat.reduceBEq] | simp only [Bool.or_false] | simp only [Bool.false_or] | simp only [Bool.or_self] | simp only [Bool.true_or] | simp only [Bool.or_true] | simp only [Bool.false_eq_true])
        repeat (first | go_big_quiet_step (first | fail) | quiet_step (first | fail))
        refine wpQuiet_nil ?_
        intro w7 hbo
        replace hbo := below_of_later hbo
        replace gd := gd.mono hbo
        replace own_v9 := own_v9.mono hbo
        replace own_v10 := own_v10.mono hbo
        replace hB := below2 hB hbo
        replace own_v12 := own_v12.mono hbo
        clear hbo
        clear cE gd
        rcases own_v9.form with ⟨_, h0⟩ | ⟨g, c9, cur, e9, _, gL, hcap, hmax, hcur, htake⟩
        · exact absurd h0 (by simp)
        rw [hLn.out] at e9 hcap htake
        have hown9 := Own.of_blk (base := 0) (Nat.zero_le _) gL (by rw [hLn.out]; exact hcap) hmax hcur (by rw [hLn.out]; exact htake)
        have sl9 : Sl w7 .u64 (some ⟨g, 0, none⟩) N := by have := sl_take hown9.sl_of N.length; rwa [htk.out] at this
        clear hown9 own_v9 gL htake hcur cur
        subst e9
        obtain ⟨a10, c10, rfl, sl10, _, _⟩ := Own.sl own_v10
        obtain ⟨a12, c12, rfl, sl12, _, _⟩ := Own.sl own_v12
        clear own_v10 own_v12
        go_wp2_with fail
        refine (rSame1_any a10 (some ⟨g, 0, none⟩) c10 c9 N N w7 sl10 sl9 (by omega)).mono ?_
        rintro e w8 ⟨rfl, hb8⟩
        rw [decide_eq_true rfl]
        replace sl10 := sl10.mono hb8
        replace sl12 := sl12.mono hb8
        replace hB := below2 hB hb8
        clear hb8 sl9
        go_wp2_with fail
        refine (rSame1_any a12 a10 c12 c10 N N w8 sl12 sl10 (by omega)).mono ?_
        rintro e w9 ⟨rfl, hb9⟩
        rw [decide_eq_true rfl]
        go_wp2
        go_ret
        exact ⟨rfl, below2 hB hb9⟩

set_option maxRecDepth 100000 in
theorem lifted (os : Os) (started : os.Started) (H : Type) (enc : TypeId × Value → H) :
    ReturnsInHanded {} Try.checked os 7 .any (Rows.assignCutSpec.pre6 enc Try.prog Try.f7 Rows.assignCutRow.domain false) (Rows.assignCutSpec.post enc Try.prog Try.f7 false true false false) := by
  refine returnsInHanded_of_change (C := Try.checked) own started (by kernel_rfl) Try.func7
    (ChangeSpec.witness6 (enc := enc) (C := Try.checked) false ⟨#[], #[.agg #[.int .u64 0, .int .i64 0, .int .i64 0, .slice none 0 0, .int .i64 0, .slice none 0 0], .slice none 0 0, .slice none 0 0], []⟩ 8 (by kernel_rfl) (by kernel_rfl) (by kernel_rfl) (by kernel_rfl)) ?_
  intro W base args ds gs before hval0 hW hcnd _
  have hval : ∀ (j : Nat) t v, Try.f7.params[j]? = some t → args[j]? = some v → Value.okWide Try.prog W .any base t v := hval0
  have hW' := hW
  obtain ⟨p, q, hA0, hV, rfl, hfz, hnd⟩ := hW
  have hA : DataW.TrodAll enc Try.prog W 0 (fun _ => true) true Try.f7.params.toList args.toList ds p := hA0
  rw [Try.params7] at hA hval
  obtain ⟨v0, vs0, d0, ds0, p0, q0, hargs, rfl, rfl, h0, r0⟩ := trodAll_cons hA
  obtain ⟨v1, vs1, d1, ds1, p1, q1, rfl, rfl, rfl, h1, r1⟩ := trodAll_cons r0
  obtain ⟨v2, vs2, d2, ds2, p2, q2, rfl, rfl, rfl, h2, r2⟩ := trodAll_cons r1
  obtain ⟨rfl, rfl, rfl⟩ := trodAll_nil r2
  obtain rfl : args = #[v0, v1, v2] := by cases args; simp_all
  obtain ⟨rfl, rfl⟩ := trodVars_none hV
  have k0 := h0
  have k1 := h1
  have k2 := h2
  obtain ⟨p0, pub0, vars0, ra0, rc0, R0, sec0, ha0, hc0, H0, rfl, wc0, hR0, hH0⟩ := open_circ h0 (hval 0 28 v0 rfl rfl)
  obtain ⟨ad1, cap1, xs1, rfl, S1⟩ := open_slice Try.underlying32 Try.underlying22 (by kernel_rfl) h1 (hval 1 32 v1 rfl rfl) (fun x hx => hW'.lt x (by simp [hx]))
  obtain ⟨ad2, cap2, xs2, rfl, S2⟩ := open_slice Try.underlying32 Try.underlying22 (by kernel_rfl) h2 (hval 2 32 v2 rfl rfl) (fun x hx => hW'.lt x (by simp [hx]))
  clear hA0 hval0
  simp only [List.append_nil] at hW'
  refine (walk p0 pub0 vars0 ra0 rc0 R0 sec0 ha0 hc0 H0 ad1 cap1 xs1 ad2 cap2 xs2 W wc0 hR0 hH0 S1 S2).mono fun e W' ⟨he, hg⟩ => ?_
  subst he
  exact ⟨_, rfl, post_of_below (pv := []) hW' (fun _ _ _ => (trodAll_cons_mk (shut_bool Try.underlying4 _) trodAll_mk0))
    (fun sp _ hsp => by subst hsp; exact (trodAll_cons_mk (Below.trod Try.laidOut (by kernel_rfl) (of_decide_eq_true (by kernel_rfl)) k0 hg (fun x hx => hW'.lt x (by simp [hx]))) (trodAll_cons_mk (Below.trod Try.laidOut (by kernel_rfl) (of_decide_eq_true (by kernel_rfl)) k1 hg (fun x hx => hW'.lt x (by simp [hx]))) (trodAll_cons_mk (Below.trod Try.laidOut (by kernel_rfl) (of_decide_eq_true (by kernel_rfl)) k2 hg (fun x hx => hW'.lt x (by simp [hx]))) trodAll_mk0)))) (fun _ _ => rfl) (by simp) hg⟩

theorem closed : joinedFacts Try.prog 7 Try.f7 Rows.assignCutSpec Rows.assignCutRow = true := by
  unfold joinedFacts
  rw [Try.mayEnter, Try.liftsFinal, Try.make]
  kernel_rfl

theorem proved : Rows.AssignCutSaid :=
  OpenClaim.holds_of_wide 7 Try.f7 rfl rfl rfl rfl rfl rfl rfl ⟨rfl, rfl, rfl, rfl, rfl⟩ rfl rfl rfl rfl rfl (by kernel_rfl) Try.func7 closed
    (of_decide_eq_true (by kernel_rfl)) (by unfold Func.isWrapper; first | (rw [if_pos (by decide +kernel)]; kernel_rfl) | (rw [if_neg (by decide +kernel)]; exact ⟨rfl, rfl⟩))
    (fun os started H enc _ => lifted os started H enc)
#print axioms proved
end assignCut
end Go.Proofs.Ytlflkddgdbdebaa
