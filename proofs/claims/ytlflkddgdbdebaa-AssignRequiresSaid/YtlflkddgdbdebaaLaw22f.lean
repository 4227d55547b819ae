/- AssignRequires: a row that requires a variable to have the value that Run gives it changes nothing, and one that requires another value leads to ErrUnsatisfied. -/
import Derived.Test.YtlflkddgdbdebaaReq
import Derived.Test.YtlflkddgdbdebaaReqM
import Derived.Test.YtlflkddgdbdebaaSeg
import Derived.BigRegion
import Derived.Deep.DeepCutAuto
namespace Go.Proofs.Ytlflkddgdbdebaa
open Go.ChangeShapes Go.WideShapes Go.ChangeAt Go.RowKit
namespace assignRequires

set_option maxRecDepth 10000 in
set_option maxHeartbeats 16000000 in
theorem walk (p pub vars : Int) (ra : Option Addr) (rc : Nat) (R : List Rw) (sec : Int) (ha : Option Addr) (hc : Nat) (H : List Hn) (ua : Option Addr) (uc : Nat) (u : List Int) (sa : Option Addr) (sc : Nat) (s : List Int) (at_ by_ : Int) (w : World)
    (hwf : (Lit.int .u64 p).wf = true ∧ (Lit.int .i64 pub).wf = true ∧ (Lit.int .i64 vars).wf = true ∧ (Lit.int .i64 sec).wf = true) (hR : RowsP w ra rc R) (hH : HintsP w ha hc H) (SU : SlP w .u64 ua uc u) (SS : SlP w .u64 sa sc s) (hat : (Lit.int .u8 at_).wf = true) (hby : (Lit.int .u64 by_).wf = true) :
    Calls Try.prog 8 #[.agg #[.int .u64 p, .int .i64 pub, .int .i64 vars, .slice ra R.length rc, .int .i64 sec, .slice ha H.length hc], .agg #[.slice ua u.length uc, .slice sa s.length sc], .agg #[.int .u8 at_, .int .u64 by_]] w fun e w' => e = .returned (.bool true) ∧ Below w.heap.size w w' := by
  have hu := SU.sl
  have hs := SS.sl
  have hAu := wfs_u64 SU.wf
  have hAs := wfs_u64 SS.wf
  have hun := slp_len SU
  have hsn := slp_len SS
  clear SU SS
  have cSh := fun (b : Nat) W h1 h2 g => short2_any p pub vars ra R rc sec ha H hc b ua uc u sa sc s W h1 h2 g hun hsn
  replace hun := hide hun
  replace hsn := hide hsn
  have cA := fun (x : Option Addr) (xc : Nat) (y : Option Addr) (yc : Nat) W h1 h2 h3 h4 => aSat_any p pub vars ra R rc sec ha H hc x xc u y yc s W h1 h2 hwf.2.2.2 h3 h4 hAu hAs
  have hat2 := wf_u8r hat
  have hby2 := wf_u64 hby
  clear hat hby
  obtain ⟨S, hS⟩ : ∃ S, S = shortC R H u s := ⟨_, rfl⟩
  rw [← hS] at cSh
  cases S with
  | false =>
    clear hS cA hAu hAs hu hs hwf hat2 hby2
    go_enter Try.func8, Try.ntmps8
    go_wp2_with fail
    refine name_calls fun W hN => ?_
    have g0 : Blk W w.heap.size #[.int .u64 p, .int .i64 pub, .int .i64 vars, .slice ra R.length rc, .int .i64 sec, .slice ha H.length hc] 28 := by rw [hN]; exact ((Blk.newAt rfl).alloc _).alloc _
    have g1 : Blk W (w.heap.size + 1) #[.slice ua u.length uc, .slice sa s.length sc] 46 := by rw [hN]; exact (Blk.newAt (by simp)).alloc _
    have g2 : Blk W (w.heap.size + 1 + 1) #[.int .u8 at_, .int .u64 by_] 48 := by rw [hN]; exact Blk.newAt (by simp)
    have hB : Below w.heap.size w W := by rw [hN]; exact (((Below.refl _ _).alloc (Nat.le_refl _) _).alloc (by simp) _).alloc (by simp; omega) _
    clear hN
    refine (awake22 W).mono ?_
    rintro e w1 ⟨rfl, hb1⟩
    replace g0 := g0.mono hb1
    replace g1 := g1.mono hb1
    replace g2 := g2.mono hb1
    replace hB := below2 hB hb1
    clear hb1
    have i0 := cell_later' (g1.cell (j := 0) (v := .slice ua u.length uc) rfl)
    have i1 := cell_later' (g1.cell (j := 1) (v := .slice sa s.length sc) rfl)
    go_wp2_with fail
    refine wp_region_later Try.mixed (by kernel_rfl) ?_
    repeat (quiet_step (first | fail))
    refine wpQuiet_nil ?_
    intro w2 hb2
    replace hb2 := below_of_later hb2
    clear i0 i1 g1
    replace g0 := g0.mono hb2
    replace g2 := g2.mono hb2
    replace hB := below2 hB hb2
    clear hb2
    have k0 := g0.cell (j := 0) (v := .int .u64 p) rfl; have k1 := g0.cell (j := 1) (v := .int .i64 pub) rfl; have k2 := g0.cell (j := 2) (v := .int .i64 vars) rfl; have k3 := g0.cell (j := 3) (v := .slice ra R.length rc) rfl; have k4 := g0.cell (j := 4) (v := .int .i64 sec) rfl; have k5 := g0.cell (j := 5) (v := .slice ha H.length hc) rfl
    have hg0 := g0.lt
    go_wp2_with fail
    refine name_calls fun W2 hN => ?_
    have hb3 : Below w2.heap.size w2 W2 := by rw [hN]; exact (Below.refl _ _).alloc (Nat.le_refl _) _
    have gS : Blk W2 w2.heap.size #[.slice ua u.length uc, .slice sa s.length sc] 32 := by rw [hN]; exact Blk.newAt rfl
    clear hN k0 k1 k2 k3 k4 k5 hg0
    replace g0 := g0.mono hb3
    replace g2 := g2.mono hb3
    replace hB := below2 hB hb3
    clear hb3
    refine (cSh _ W2 (hR.mono hB) (hH.mono hB) gS).mono ?_
    rintro e w3 ⟨rfl, hb3⟩
    replace g0 := g0.mono hb3
    replace g2 := g2.mono hb3
    replace hB := below2 hB hb3
    clear hb3 gS cSh
    trace_state
    go_wp2
    go_ret
    exact ⟨rfl, hB⟩
  | true =>
    obtain ⟨hl1, hl2⟩ := short_len hS.symm
    have hRl := short_rows hS.symm
    clear hS
    by_cases hE : satE p pub vars R sec H u s = 0
    · obtain ⟨hO, hSt, eL⟩ := sat_ok hE
      rw [hE, eL] at cA
      have hLl := runL_len (p := p) (pub := pub) (vars := vars) (R := R) (sec := sec) (H := H) (u := u) (s := s)
      have hro := hO
      unfold runOk at hro
      rw [Bool.and_eq_true] at hro
      have hT := (cir_bd hro.1).1
      obtain ⟨hvp, hp0, hp1, hp2, _⟩ := tbl_bd hT
      have hpp := vld_pos hvp
      have hSd := hSt
      unfold satOk at hSd
      rw [Bool.and_eq_true, Bool.and_eq_true] at hSd
      have hAd := asn_bd hSd.1.2
      have hWW := runL_W (p := p) (pub := pub) (vars := vars) (R := R) (sec := sec) (H := H) hAu hAs
      have hQ := fun (r : Rw) (n : Int) (j : Nat) h1 h2 h3 h4 h5 => req_sat (p := p) (pub := pub) (vars := vars) (R := R) (sec := sec) (H := H) (r := r) (n := n) (j := j) hAu hAs hO hSt hRl h1 h2 h3 h4 h5
      obtain ⟨L, hL⟩ : ∃ L, L = runL p pub vars R sec H u s := ⟨_, rfl⟩
      rw [← hL] at cA hLl hAd hWW
      simp only [← hL] at hQ
      clear hL eL hE hO hSt hro hT hSd hp0 hp1 hp2
      have hLp := hAd.2.2
      clear hAd
      by_cases hlt : L.length < 2
      · have hlt' : (L.length : Int) < 2 := by omega
        clear hQ hWW hAu hAs hwf hLp hvp hat2 hby2
        go_enter Try.func8, Try.ntmps8
        go_wp2_with fail
        refine name_calls fun W hN => ?_
        have g0 : Blk W w.heap.size #[.int .u64 p, .int .i64 pub, .int .i64 vars, .slice ra R.length rc, .int .i64 sec, .slice ha H.length hc] 28 := by rw [hN]; exact ((Blk.newAt rfl).alloc _).alloc _
        have g1 : Blk W (w.heap.size + 1) #[.slice ua u.length uc, .slice sa s.length sc] 46 := by rw [hN]; exact (Blk.newAt (by simp)).alloc _
        have g2 : Blk W (w.heap.size + 1 + 1) #[.int .u8 at_, .int .u64 by_] 48 := by rw [hN]; exact Blk.newAt (by simp)
        have hB : Below w.heap.size w W := by rw [hN]; exact (((Below.refl _ _).alloc (Nat.le_refl _) _).alloc (by simp) _).alloc (by simp; omega) _
        clear hN
        refine (awake22 W).mono ?_
        rintro e w1 ⟨rfl, hb1⟩
        replace g0 := g0.mono hb1
        replace g1 := g1.mono hb1
        replace g2 := g2.mono hb1
        replace hB := below2 hB hb1
        clear hb1
        have i0 := cell_later' (g1.cell (j := 0) (v := .slice ua u.length uc) rfl)
        have i1 := cell_later' (g1.cell (j := 1) (v := .slice sa s.length sc) rfl)
        go_wp2_with fail
        refine wp_region_later Try.mixed (by kernel_rfl) ?_
        repeat (quiet_step (first | fail))
        refine wpQuiet_nil ?_
        intro w2 hb2
        replace hb2 := below_of_later hb2
        clear i0 i1 g1
        replace g0 := g0.mono hb2
        replace g2 := g2.mono hb2
        replace hB := below2 hB hb2
        clear hb2
        have k0 := g0.cell (j := 0) (v := .int .u64 p) rfl; have k1 := g0.cell (j := 1) (v := .int .i64 pub) rfl; have k2 := g0.cell (j := 2) (v := .int .i64 vars) rfl; have k3 := g0.cell (j := 3) (v := .slice ra R.length rc) rfl; have k4 := g0.cell (j := 4) (v := .int .i64 sec) rfl; have k5 := g0.cell (j := 5) (v := .slice ha H.length hc) rfl
        have hg0 := g0.lt
        go_wp2_with fail
        refine name_calls fun W2 hN => ?_
        have hb3 : Below w2.heap.size w2 W2 := by rw [hN]; exact (Below.refl _ _).alloc (Nat.le_refl _) _
        have gS : Blk W2 w2.heap.size #[.slice ua u.length uc, .slice sa s.length sc] 32 := by rw [hN]; exact Blk.newAt rfl
        clear hN k0 k1 k2 k3 k4 k5 hg0
        replace g0 := g0.mono hb3
        replace g2 := g2.mono hb3
        replace hB := below2 hB hb3
        clear hb3
        refine (cSh _ W2 (hR.mono hB) (hH.mono hB) gS).mono ?_
        rintro e w3 ⟨rfl, hb3⟩
        replace g0 := g0.mono hb3
        replace g2 := g2.mono hb3
        replace hB := below2 hB hb3
        clear hb3 gS cSh
        go_wp2_with fail
        refine Rel.region_any Try.mixed fun w3d hbd => ?_
        replace g0 := g0.mono hbd
        replace g2 := g2.mono hbd
        replace hB := below2 hB hbd
        clear hbd
        refine Rel.any_seg_k 7 [] (by kernel_rfl) fun K hK => ?_
        have k0 := cell_later' (g0.cell (j := 0) (v := .int .u64 p) rfl); have k1 := cell_later' (g0.cell (j := 1) (v := .int .i64 pub) rfl); have k2 := cell_later' (g0.cell (j := 2) (v := .int .i64 vars) rfl); have k3 := cell_later' (g0.cell (j := 3) (v := .slice ra R.length rc) rfl); have k4 := cell_later' (g0.cell (j := 4) (v := .int .i64 sec) rfl); have k5 := cell_later' (g0.cell (j := 5) (v := .slice ha H.length hc) rfl)
        simp only [List.take_succ_cons, List.take_zero]
        refine Rel.any_mix (w0 := w3d) 5 [] [(2, fun v w => Own w w3d.heap.size 22 .u64 v u), (4, fun v w => Own w w3d.heap.size 22 .u64 v s)] ⟨⟨w3d.drawn, #[]⟩, by simp [later]⟩ (by kernel_rfl) (by kernel_rfl) ?_ ?_
        · intro z hz v q q' h1 h2
          simp only [List.mem_cons, List.not_mem_nil, or_false] at hz
          rcases hz with rfl | rfl
          · exact Own.mono h1 h2
          · exact Own.mono h1 h2
        simp only [List.take_succ_cons, List.take_zero, List.drop_succ_cons, List.drop_zero, List.map_cons, List.map_nil]
        repeat (first | (refine Rel.wpA_b (by rfl) ?_) | (refine Rel.wpA_step (by rfl) fun K hK => ?_; go_simp; refine hK _ ?_; clear hK K))
        refine Rel.wpA_nil ?_
        refine Rel.wpB_step _ rfl rfl (fun p' hx => ?_) (fun x2 => ?_)
        · refine rU_of (fr := false) (r := .ok (.enter 15 #[.slice ua u.length uc]) (later w3d p')) (by kernel_rfl) (by kernel_rfl) ?_
          exact rU_sl (own22_any ua uc u _ ((hu.mono hB).mono (below_later _ _)) (by omega))
        refine Rel.wpB_step _ rfl rfl (fun p' hx => ?_) (fun x4 => ?_)
        · refine rU_of (fr := false) (r := .ok (.enter 15 #[.slice sa s.length sc]) (later w3d p')) (by kernel_rfl) (by kernel_rfl) ?_
          exact rU_sl (own22_any sa sc s _ ((hs.mono hB).mono (below_later _ _)) (by omega))
        refine Rel.wpB_nil ?_
        intro p' hctx hfr
        simp only [List.nil_append, List.cons_append, List.mem_cons, List.not_mem_nil, or_false, forall_eq_or_imp, forall_eq] at hctx
        obtain ⟨own2, own4⟩ := hctx
        have hbo := below_later w3d p'
        clear hfr k0 k1 k2 k3 k4 k5
        generalize later w3d p' = w3e at *
        replace g0 := g0.mono hbo
        replace g2 := g2.mono hbo
        replace hB := below2 hB hbo
        clear hbo
        obtain ⟨ad2, c2', rfl, sl2, _, _⟩ := Own.sl own2
        obtain ⟨ad4, c4', rfl, sl4, _, _⟩ := Own.sl own4
        clear own2 own4
        go_wp2_with fail
        refine (cA ad2 c2' ad4 c4' w3e (hR.mono hB) (hH.mono hB) sl2 sl4).mono ?_
        rintro e w3f ⟨v9, rfl, own_v9, hbo⟩
        replace g0 := g0.mono hbo
        replace g2 := g2.mono hbo
        replace hB := below2 hB hbo
        clear hbo sl2 sl4
        go_wp2_with fail
        refine hK _ _ (by kernel_rfl) ?_
        clear hK K
        refine Rel.any_later_tail 10 (by kernel_rfl) ?_
        simp only [Rel.seg2]
        repeat (first | simp only [List.take_succ_cons] | simp only [List.take_zero] | simp only [List.drop_succ_cons] | simp only [List.drop_zero] | simp only [Nat.reduceAdd] | simp only [Nat.reduceLT] | simp only [if_true] | simp only [if_false] | simp only [Rel.quietOp] | simp only [Rel.laterOp] | simp only [List.contains_nil] | simp only [List.contains_cons] | simp only [Nat.reduceBEq] | simp only [Bool.or_false] | simp only [Bool.false_or] | simp only [Bool.or_self] | simp only [Bool.true_or] | simp only [Bool.or_true] | simp only [Bool.false_eq_true])
        repeat (first | go_big_quiet_step (first | fail) | quiet_step (first | fail))
        refine wpQuiet_nil ?_
        intro w4 hbo
        replace hbo := below_of_later hbo
        replace g0 := g0.mono hbo
        replace g2 := g2.mono hbo
        replace hB := below2 hB hbo
        replace own_v9 := own_v9.mono hbo
        clear hbo
        clear cA g2
        obtain ⟨a9, c9, rfl, _, _, _⟩ := Own.sl own_v9
        go_wp2
        go_ret
        exact ⟨rfl, hB⟩
      · have hlt' : (2 : Int) ≤ L.length := by omega
        by_cases hz : by_ % p = 0
        · have hz1 : (by_ % p == 0) = true := by simpa using hz
          have hp2 : 0 < p := by omega
          replace hz := hide hz
          clear hQ hWW hAu hAs hwf hLp hat2
          go_enter Try.func8, Try.ntmps8
          go_wp2_with fail
          refine name_calls fun W hN => ?_
          have g0 : Blk W w.heap.size #[.int .u64 p, .int .i64 pub, .int .i64 vars, .slice ra R.length rc, .int .i64 sec, .slice ha H.length hc] 28 := by rw [hN]; exact ((Blk.newAt rfl).alloc _).alloc _
          have g1 : Blk W (w.heap.size + 1) #[.slice ua u.length uc, .slice sa s.length sc] 46 := by rw [hN]; exact (Blk.newAt (by simp)).alloc _
          have g2 : Blk W (w.heap.size + 1 + 1) #[.int .u8 at_, .int .u64 by_] 48 := by rw [hN]; exact Blk.newAt (by simp)
          have hB : Below w.heap.size w W := by rw [hN]; exact (((Below.refl _ _).alloc (Nat.le_refl _) _).alloc (by simp) _).alloc (by simp; omega) _
          clear hN
          refine (awake22 W).mono ?_
          rintro e w1 ⟨rfl, hb1⟩
          replace g0 := g0.mono hb1
          replace g1 := g1.mono hb1
          replace g2 := g2.mono hb1
          replace hB := below2 hB hb1
          clear hb1
          have i0 := cell_later' (g1.cell (j := 0) (v := .slice ua u.length uc) rfl)
          have i1 := cell_later' (g1.cell (j := 1) (v := .slice sa s.length sc) rfl)
          go_wp2_with fail
          refine wp_region_later Try.mixed (by kernel_rfl) ?_
          repeat (quiet_step (first | fail))
          refine wpQuiet_nil ?_
          intro w2 hb2
          replace hb2 := below_of_later hb2
          clear i0 i1 g1
          replace g0 := g0.mono hb2
          replace g2 := g2.mono hb2
          replace hB := below2 hB hb2
          clear hb2
          have k0 := g0.cell (j := 0) (v := .int .u64 p) rfl; have k1 := g0.cell (j := 1) (v := .int .i64 pub) rfl; have k2 := g0.cell (j := 2) (v := .int .i64 vars) rfl; have k3 := g0.cell (j := 3) (v := .slice ra R.length rc) rfl; have k4 := g0.cell (j := 4) (v := .int .i64 sec) rfl; have k5 := g0.cell (j := 5) (v := .slice ha H.length hc) rfl
          have hg0 := g0.lt
          go_wp2_with fail
          refine name_calls fun W2 hN => ?_
          have hb3 : Below w2.heap.size w2 W2 := by rw [hN]; exact (Below.refl _ _).alloc (Nat.le_refl _) _
          have gS : Blk W2 w2.heap.size #[.slice ua u.length uc, .slice sa s.length sc] 32 := by rw [hN]; exact Blk.newAt rfl
          clear hN k0 k1 k2 k3 k4 k5 hg0
          replace g0 := g0.mono hb3
          replace g2 := g2.mono hb3
          replace hB := below2 hB hb3
          clear hb3
          refine (cSh _ W2 (hR.mono hB) (hH.mono hB) gS).mono ?_
          rintro e w3 ⟨rfl, hb3⟩
          replace g0 := g0.mono hb3
          replace g2 := g2.mono hb3
          replace hB := below2 hB hb3
          clear hb3 gS cSh
          go_wp2_with fail
          refine Rel.region_any Try.mixed fun w3d hbd => ?_
          replace g0 := g0.mono hbd
          replace g2 := g2.mono hbd
          replace hB := below2 hB hbd
          clear hbd
          refine Rel.any_seg_k 7 [] (by kernel_rfl) fun K hK => ?_
          have k0 := cell_later' (g0.cell (j := 0) (v := .int .u64 p) rfl); have k1 := cell_later' (g0.cell (j := 1) (v := .int .i64 pub) rfl); have k2 := cell_later' (g0.cell (j := 2) (v := .int .i64 vars) rfl); have k3 := cell_later' (g0.cell (j := 3) (v := .slice ra R.length rc) rfl); have k4 := cell_later' (g0.cell (j := 4) (v := .int .i64 sec) rfl); have k5 := cell_later' (g0.cell (j := 5) (v := .slice ha H.length hc) rfl)
          simp only [List.take_succ_cons, List.take_zero]
          refine Rel.any_mix (w0 := w3d) 5 [] [(2, fun v w => Own w w3d.heap.size 22 .u64 v u), (4, fun v w => Own w w3d.heap.size 22 .u64 v s)] ⟨⟨w3d.drawn, #[]⟩, by simp [later]⟩ (by kernel_rfl) (by kernel_rfl) ?_ ?_
          · intro z hz v q q' h1 h2
            simp only [List.mem_cons, List.not_mem_nil, or_false] at hz
            rcases hz with rfl | rfl
            · exact Own.mono h1 h2
            · exact Own.mono h1 h2
          simp only [List.take_succ_cons, List.take_zero, List.drop_succ_cons, List.drop_zero, List.map_cons, List.map_nil]
          repeat (first | (refine Rel.wpA_b (by rfl) ?_) | (refine Rel.wpA_step (by rfl) fun K hK => ?_; go_simp; refine hK _ ?_; clear hK K))
          refine Rel.wpA_nil ?_
          refine Rel.wpB_step _ rfl rfl (fun p' hx => ?_) (fun x2 => ?_)
          · refine rU_of (fr := false) (r := .ok (.enter 15 #[.slice ua u.length uc]) (later w3d p')) (by kernel_rfl) (by kernel_rfl) ?_
            exact rU_sl (own22_any ua uc u _ ((hu.mono hB).mono (below_later _ _)) (by omega))
          refine Rel.wpB_step _ rfl rfl (fun p' hx => ?_) (fun x4 => ?_)
          · refine rU_of (fr := false) (r := .ok (.enter 15 #[.slice sa s.length sc]) (later w3d p')) (by kernel_rfl) (by kernel_rfl) ?_
            exact rU_sl (own22_any sa sc s _ ((hs.mono hB).mono (below_later _ _)) (by omega))
          refine Rel.wpB_nil ?_
          intro p' hctx hfr
          simp only [List.nil_append, List.cons_append, List.mem_cons, List.not_mem_nil, or_false, forall_eq_or_imp, forall_eq] at hctx
          obtain ⟨own2, own4⟩ := hctx
          have hbo := below_later w3d p'
          clear hfr k0 k1 k2 k3 k4 k5
          generalize later w3d p' = w3e at *
          replace g0 := g0.mono hbo
          replace g2 := g2.mono hbo
          replace hB := below2 hB hbo
          clear hbo
          obtain ⟨ad2, c2', rfl, sl2, _, _⟩ := Own.sl own2
          obtain ⟨ad4, c4', rfl, sl4, _, _⟩ := Own.sl own4
          clear own2 own4
          go_wp2_with fail
          refine (cA ad2 c2' ad4 c4' w3e (hR.mono hB) (hH.mono hB) sl2 sl4).mono ?_
          rintro e w3f ⟨v9, rfl, own_v9, hbo⟩
          replace g0 := g0.mono hbo
          replace g2 := g2.mono hbo
          replace hB := below2 hB hbo
          clear hbo sl2 sl4
          go_wp2_with fail
          refine hK _ _ (by kernel_rfl) ?_
          clear hK K
          refine Rel.any_later_tail 10 (by kernel_rfl) ?_
          simp only [Rel.seg2]
          repeat (first | simp only [List.take_succ_cons] | simp only [List.take_zero] | simp only [List.drop_succ_cons] | simp only [List.drop_zero] | simp only [Nat.reduceAdd] | simp only [Nat.reduceLT] | simp only [if_true] | simp only [if_false] | simp only [Rel.quietOp] | simp only [Rel.laterOp] | simp only [List.contains_nil] | simp only [List.contains_cons] | simp only [Nat.reduceBEq] | simp only [Bool.or_false] | simp only [Bool.false_or] | simp only [Bool.or_self] | simp only [Bool.true_or] | simp only [Bool.or_true] | simp only [Bool.false_eq_true])
          repeat (first | go_big_quiet_step (first | fail) | quiet_step (first | fail))
          refine wpQuiet_nil ?_
          intro w4 hbo
          replace hbo := below_of_later hbo
          replace g0 := g0.mono hbo
          replace g2 := g2.mono hbo
          replace hB := below2 hB hbo
          replace own_v9 := own_v9.mono hbo
          clear hbo
          clear cA
          obtain ⟨a9, c9, rfl, _, _, _⟩ := Own.sl own_v9
          have y1 := g2.cell (j := 1) (v := .int .u64 by_) rfl
          have k0 := g0.cell (j := 0) (v := .int .u64 p) rfl; have k1 := g0.cell (j := 1) (v := .int .i64 pub) rfl; have k2 := g0.cell (j := 2) (v := .int .i64 vars) rfl; have k3 := g0.cell (j := 3) (v := .slice ra R.length rc) rfl; have k4 := g0.cell (j := 4) (v := .int .i64 sec) rfl; have k5 := g0.cell (j := 5) (v := .slice ha H.length hc) rfl
          go_wp2
          go_ret
          exact ⟨rfl, hB⟩
        · have hz1 : (by_ % p == 0) = false := by simpa using hz
          have hp2 : 0 < p := by omega
          have hz2 := fun a h => add_other (p := p) (a := a) (z := by_) hvp h hz
          replace hz := hide hz
          go_enter Try.func8, Try.ntmps8
          go_wp2_with fail
          refine name_calls fun W hN => ?_
          have g0 : Blk W w.heap.size #[.int .u64 p, .int .i64 pub, .int .i64 vars, .slice ra R.length rc, .int .i64 sec, .slice ha H.length hc] 28 := by rw [hN]; exact ((Blk.newAt rfl).alloc _).alloc _
          have g1 : Blk W (w.heap.size + 1) #[.slice ua u.length uc, .slice sa s.length sc] 46 := by rw [hN]; exact (Blk.newAt (by simp)).alloc _
          have g2 : Blk W (w.heap.size + 1 + 1) #[.int .u8 at_, .int .u64 by_] 48 := by rw [hN]; exact Blk.newAt (by simp)
          have hB : Below w.heap.size w W := by rw [hN]; exact (((Below.refl _ _).alloc (Nat.le_refl _) _).alloc (by simp) _).alloc (by simp; omega) _
          clear hN
          refine (awake22 W).mono ?_
          rintro e w1 ⟨rfl, hb1⟩
          replace g0 := g0.mono hb1
          replace g1 := g1.mono hb1
          replace g2 := g2.mono hb1
          replace hB := below2 hB hb1
          clear hb1
          have i0 := cell_later' (g1.cell (j := 0) (v := .slice ua u.length uc) rfl)
          have i1 := cell_later' (g1.cell (j := 1) (v := .slice sa s.length sc) rfl)
          go_wp2_with fail
          refine wp_region_later Try.mixed (by kernel_rfl) ?_
          repeat (quiet_step (first | fail))
          refine wpQuiet_nil ?_
          intro w2 hb2
          replace hb2 := below_of_later hb2
          clear i0 i1 g1
          replace g0 := g0.mono hb2
          replace g2 := g2.mono hb2
          replace hB := below2 hB hb2
          clear hb2
          have k0 := g0.cell (j := 0) (v := .int .u64 p) rfl; have k1 := g0.cell (j := 1) (v := .int .i64 pub) rfl; have k2 := g0.cell (j := 2) (v := .int .i64 vars) rfl; have k3 := g0.cell (j := 3) (v := .slice ra R.length rc) rfl; have k4 := g0.cell (j := 4) (v := .int .i64 sec) rfl; have k5 := g0.cell (j := 5) (v := .slice ha H.length hc) rfl
          have hg0 := g0.lt
          go_wp2_with fail
          refine name_calls fun W2 hN => ?_
          have hb3 : Below w2.heap.size w2 W2 := by rw [hN]; exact (Below.refl _ _).alloc (Nat.le_refl _) _
          have gS : Blk W2 w2.heap.size #[.slice ua u.length uc, .slice sa s.length sc] 32 := by rw [hN]; exact Blk.newAt rfl
          clear hN k0 k1 k2 k3 k4 k5 hg0
          replace g0 := g0.mono hb3
          replace g2 := g2.mono hb3
          replace hB := below2 hB hb3
          clear hb3
          refine (cSh _ W2 (hR.mono hB) (hH.mono hB) gS).mono ?_
          rintro e w3 ⟨rfl, hb3⟩
          replace g0 := g0.mono hb3
          replace g2 := g2.mono hb3
          replace hB := below2 hB hb3
          clear hb3 gS cSh
          go_wp2_with fail
          refine Rel.region_any Try.mixed fun w3d hbd => ?_
          replace g0 := g0.mono hbd
          replace g2 := g2.mono hbd
          replace hB := below2 hB hbd
          clear hbd
          refine Rel.any_seg_k 7 [] (by kernel_rfl) fun K hK => ?_
          have k0 := cell_later' (g0.cell (j := 0) (v := .int .u64 p) rfl); have k1 := cell_later' (g0.cell (j := 1) (v := .int .i64 pub) rfl); have k2 := cell_later' (g0.cell (j := 2) (v := .int .i64 vars) rfl); have k3 := cell_later' (g0.cell (j := 3) (v := .slice ra R.length rc) rfl); have k4 := cell_later' (g0.cell (j := 4) (v := .int .i64 sec) rfl); have k5 := cell_later' (g0.cell (j := 5) (v := .slice ha H.length hc) rfl)
          simp only [List.take_succ_cons, List.take_zero]
          refine Rel.any_mix (w0 := w3d) 5 [] [(2, fun v w => Own w w3d.heap.size 22 .u64 v u), (4, fun v w => Own w w3d.heap.size 22 .u64 v s)] ⟨⟨w3d.drawn, #[]⟩, by simp [later]⟩ (by kernel_rfl) (by kernel_rfl) ?_ ?_
          · intro z hz v q q' h1 h2
            simp only [List.mem_cons, List.not_mem_nil, or_false] at hz
            rcases hz with rfl | rfl
            · exact Own.mono h1 h2
            · exact Own.mono h1 h2
          simp only [List.take_succ_cons, List.take_zero, List.drop_succ_cons, List.drop_zero, List.map_cons, List.map_nil]
          repeat (first | (refine Rel.wpA_b (by rfl) ?_) | (refine Rel.wpA_step (by rfl) fun K hK => ?_; go_simp; refine hK _ ?_; clear hK K))
          refine Rel.wpA_nil ?_
          refine Rel.wpB_step _ rfl rfl (fun p' hx => ?_) (fun x2 => ?_)
          · refine rU_of (fr := false) (r := .ok (.enter 15 #[.slice ua u.length uc]) (later w3d p')) (by kernel_rfl) (by kernel_rfl) ?_
            exact rU_sl (own22_any ua uc u _ ((hu.mono hB).mono (below_later _ _)) (by omega))
          refine Rel.wpB_step _ rfl rfl (fun p' hx => ?_) (fun x4 => ?_)
          · refine rU_of (fr := false) (r := .ok (.enter 15 #[.slice sa s.length sc]) (later w3d p')) (by kernel_rfl) (by kernel_rfl) ?_
            exact rU_sl (own22_any sa sc s _ ((hs.mono hB).mono (below_later _ _)) (by omega))
          refine Rel.wpB_nil ?_
          intro p' hctx hfr
          simp only [List.nil_append, List.cons_append, List.mem_cons, List.not_mem_nil, or_false, forall_eq_or_imp, forall_eq] at hctx
          obtain ⟨own2, own4⟩ := hctx
          have hbo := below_later w3d p'
          clear hfr k0 k1 k2 k3 k4 k5
          generalize later w3d p' = w3e at *
          replace g0 := g0.mono hbo
          replace g2 := g2.mono hbo
          replace hB := below2 hB hbo
          clear hbo
          obtain ⟨ad2, c2', rfl, sl2, _, _⟩ := Own.sl own2
          obtain ⟨ad4, c4', rfl, sl4, _, _⟩ := Own.sl own4
          clear own2 own4
          go_wp2_with fail
          refine (cA ad2 c2' ad4 c4' w3e (hR.mono hB) (hH.mono hB) sl2 sl4).mono ?_
          rintro e w3f ⟨v9, rfl, own_v9, hbo⟩
          replace g0 := g0.mono hbo
          replace g2 := g2.mono hbo
          replace hB := below2 hB hbo
          clear hbo sl2 sl4
          go_wp2_with fail
          refine hK _ _ (by kernel_rfl) ?_
          clear hK K
          refine Rel.any_later_tail 10 (by kernel_rfl) ?_
          simp only [Rel.seg2]
          repeat (first | simp only [List.take_succ_cons] | simp only [List.take_zero] | simp only [List.drop_succ_cons] | simp only [List.drop_zero] | simp only [Nat.reduceAdd] | simp only [Nat.reduceLT] | simp only [if_true] | simp only [if_false] | simp only [Rel.quietOp] | simp only [Rel.laterOp] | simp only [List.contains_nil] | simp only [List.contains_cons] | simp only [Nat.reduceBEq] | simp only [Bool.or_false] | simp only [Bool.false_or] | simp only [Bool.or_self] | simp only [Bool.true_or] | simp only [Bool.or_true] | simp only [Bool.false_eq_true])
          repeat (first | go_big_quiet_step (first | fail) | quiet_step (first | fail))
          refine wpQuiet_nil ?_
          intro w4 hbo
          replace hbo := below_of_later hbo
          replace g0 := g0.mono hbo
          replace g2 := g2.mono hbo
          replace hB := below2 hB hbo
          replace own_v9 := own_v9.mono hbo
          clear hbo
          clear cA
          rcases own_v9.form with ⟨_, h0⟩ | ⟨g, c9, cur, e9, hg9, gL, hcap, hmax, hcur, htake⟩
          · exfalso
            rw [h0, List.length_nil] at hlt
            omega
          subst e9
          clear gL hcap hmax hcur htake cur
          have y1 := g2.cell (j := 1) (v := .int .u64 by_) rfl
          have y0 := g2.cell (j := 0) (v := .int .u8 at_) rfl
          have k0 := g0.cell (j := 0) (v := .int .u64 p) rfl; have k1 := g0.cell (j := 1) (v := .int .i64 pub) rfl; have k2 := g0.cell (j := 2) (v := .int .i64 vars) rfl; have k3 := g0.cell (j := 3) (v := .slice ra R.length rc) rfl; have k4 := g0.cell (j := 4) (v := .int .i64 sec) rfl; have k5 := g0.cell (j := 5) (v := .slice ha H.length hc) rfl
          have hg0 := g0.lt
          have hg2 := g2.lt
          have hmod : ∃ q : Nat, at_ % ((L.length : Int) - 1) = q ∧ q + 1 < L.length := by
            have h1 := Int.emod_nonneg at_ (show (L.length : Int) - 1 ≠ 0 by omega)
            have h2 := Int.emod_lt_of_pos at_ (show 0 < (L.length : Int) - 1 by omega)
            exact ⟨(at_ % ((L.length : Int) - 1)).toNat, by omega, by omega⟩
          obtain ⟨q, hq1, hq2⟩ := hmod
          have hmf : ∀ (fn : Fn) (first cap : Array Value) (w : World), (Instr.makeFunc fn first cap).run Try.prog w = .ok (.func fn first cap) w := fun _ _ _ _ => rfl
          go_upto_region 11 with (fail)
          clear hq1 hmf y0
          refine name_world fun w5 hN => ?_
          have hb5 : Below w4.heap.size w4 w5 := by rw [hN]; exact (Below.refl _ _).alloc (Nat.le_refl _) _
          have gV : Blk w5 w4.heap.size #[.int .i64 (1 + q)] 3 := by rw [hN]; exact Blk.newAt rfl
          have own9 := own_v9.mono hb5
          replace g0 := g0.mono hb5
          replace g2 := g2.mono hb5
          replace hB := below2 hB hb5
          clear hN hb5 k0 k1 k2 k3 k4 k5 y1 own_v9 hg0 hg2 hg9
          obtain ⟨x, hx⟩ : ∃ x, x = L.getD (q + 1) 0 := ⟨_, rfl⟩
          have hxb := hWW _ (getD_mem' hq2 0)
          have hxp := hLp _ hq2
          rw [← hx] at hxb hxp
          have cS := fun ra' rc' r (x : Option Addr) (xc : Nat) (y : Option Addr) (yc : Nat) W h1 h2 h3 h4 => aSat_any p pub vars ra' (R ++ [r]) rc' sec ha H hc x xc u y yc s W h1 h2 hwf.2.2.2 h3 h4 hAu hAs
          have eLr : ∀ r : Rw, (R ++ [r]).length = R.length + 1 := fun r => by simp
          simp only [eLr] at cS
          have hQ2 := fun (r : Rw) (n : Int) (h1 : r.a.l = [(1 + (q : Int), 1)]) h2 h3 h5 => hQ r n (q + 1) (by rw [h1, Int.add_comm]; rfl) h2 h3 hq2 h5
          simp only [← hx] at hQ2
          have hz3 := hz2 x ⟨hxb.1, hxp⟩
          have hfa := fadd_lt hvp x by_
          have hvw : (Lit.int .i64 (1 + (q : Int))).wf = true := by simp [Lit.wf, IntKind.min, IntKind.max, IntKind.signed, IntKind.bits]; omega
          have cRow := fun n W g0 gV hR hn => row22_any n (1 + q) w.heap.size w4.heap.size p pub vars ra R rc sec ha H hc W g0 gV hR hRl hvw hn
          have ckx := fun (W : World) (h : Own W w3e.heap.size 22 .u64 (.slice (some ⟨g, 0, none⟩) L.length c9) L) => h.cell (j := q + 1) hq2
          simp only [← hx] at ckx
          have eqn : (1 + (q : Int)).toNat = q + 1 := by omega
          have eqn2 : 1 + q = q + 1 := by omega
          have hi1 : 1 + (q : Int) < L.length := by omega
          have hi0 : (0 : Int) ≤ 1 + (q : Int) := by omega
          replace hx := hide hx
          replace hz3 := hide hz3
          replace hfa := hide hfa
          replace hQ2 := hide hQ2
          replace eLr := hide eLr
          clear hQ hz2 hvw hWW hLp hAu hAs hwf
          have c0 := gV.cell (j := 0) (v := .int .i64 (1 + q)) rfl
          have kx := ckx _ own9
          go_wp2_with fail
          refine (cRow x w5 g0 gV (hR.mono hB) ⟨hxb.1, by omega⟩).mono ?_
          rintro e w6 ⟨ra1, rc1, r1, rfl, hR1, a1, b1, d1, hb6⟩
          have hq := hQ2.out r1 x a1 b1 d1 ⟨hxb.1, hxp⟩
          rw [if_pos rfl, if_pos rfl] at hq
          have cS1 := cS ra1 rc1 r1
          simp only [hq.1, hq.2] at cS1
          replace g0 := g0.mono hb6
          replace g2 := g2.mono hb6
          replace gV := gV.mono hb6
          replace own9 := own9.mono hb6
          replace hB := below2 hB hb6
          clear hb6 hq a1 b1 d1 c0 kx
          go_wp2_with fail
          refine (own22_any ua uc u w6 (hu.mono hB) (by omega)).mono ?_
          rintro ew7 w7 ⟨vw7, rfl, o7, hb7⟩
          obtain ⟨ad7, c7, rfl, sl7, _, _⟩ := Own.sl o7
          replace g0 := g0.mono hb7
          replace g2 := g2.mono hb7
          replace gV := gV.mono hb7
          replace own9 := own9.mono hb7
          replace hR1 := hR1.mono hb7
          replace hB := below2 hB hb7
          clear hb7 o7
          go_wp2_with fail
          refine (own22_any sa sc s w7 (hs.mono hB) (by omega)).mono ?_
          rintro ew8 w8 ⟨vw8, rfl, o8, hb8⟩
          obtain ⟨ad8, c8, rfl, sl8, _, _⟩ := Own.sl o8
          replace g0 := g0.mono hb8
          replace g2 := g2.mono hb8
          replace gV := gV.mono hb8
          replace own9 := own9.mono hb8
          replace hR1 := hR1.mono hb8
          replace sl7 := sl7.mono hb8
          replace hB := below2 hB hb8
          clear hb8 o8
          go_wp2_with fail
          refine (cS1 ad7 c7 ad8 c8 w8 hR1 (hH.mono hB) sl7 sl8).mono ?_
          rintro e w9 ⟨v13, rfl, o13, hb9⟩
          replace g0 := g0.mono hb9
          replace g2 := g2.mono hb9
          replace gV := gV.mono hb9
          replace own9 := own9.mono hb9
          replace hB := below2 hB hb9
          replace o13 := o13.low (b := 0) (Nat.zero_le _)
          clear hb9 cS1 hR1 sl7 sl8
          go_wp2_with fail
          refine Rel.region_any Try.mixed fun wd hbd => ?_
          replace g0 := g0.mono hbd
          replace g2 := g2.mono hbd
          replace gV := gV.mono hbd
          replace own9 := own9.mono hbd
          replace o13 := o13.mono hbd
          replace hB := below2 hB hbd
          clear hbd
          refine Rel.any_seg_k 18 [] (by kernel_rfl) fun K hK => ?_
          have k0 := cell_later' (g0.cell (j := 0) (v := .int .u64 p) rfl)
          have c0 := cell_later' (gV.cell (j := 0) (v := .int .i64 (1 + q)) rfl)
          have kx := cell_later' (ckx _ own9)
          have y1 := cell_later' (g2.cell (j := 1) (v := .int .u64 by_) rfl)
          have cAdd := fun P => rAdd_any p x by_ (later wd P) hxb.1 (by omega) hby2.1 hby2.2
          obtain ⟨n2, hn2⟩ : ∃ n2, n2 = fadd p x by_ := ⟨_, rfl⟩
          rw [← hn2] at hz3 hfa
          simp only [← hn2] at cAdd
          have hfa2 := hfa.out
          have cR2 := fun P => cRow n2 (later wd P) (g0.mono (below_later _ _)) (gV.mono (below_later _ _)) ((hR.mono hB).mono (below_later _ _)) ⟨hfa2.1, by omega⟩
          have cO1 := fun P => own22_any ua uc u (later wd P) ((hu.mono hB).mono (below_later _ _)) (by omega)
          have cO2 := fun P => own22_any sa sc s (later wd P) ((hs.mono hB).mono (below_later _ _)) (by omega)
          replace hn2 := hide hn2
          clear hfa2
          simp only [List.take_succ_cons, List.take_zero]
          refine Rel.any_mix (w0 := wd) 16 [] [(11, IsRw n2 (1 + q) p pub vars R sec ha H hc), (13, fun v w => Own w wd.heap.size 22 .u64 v u), (15, fun v w => Own w wd.heap.size 22 .u64 v s)] ⟨⟨wd.drawn, #[]⟩, by simp [later]⟩ (by kernel_rfl) (by kernel_rfl) ?_ ?_
          · intro z hz v q q' h1 h2
            simp only [List.mem_cons, List.not_mem_nil, or_false] at hz
            rcases hz with rfl | rfl | rfl
            · exact IsRw.mono h1 h2
            · exact Own.mono h1 h2
            · exact Own.mono h1 h2
          simp only [List.take_succ_cons, List.take_zero, List.drop_succ_cons, List.drop_zero, List.map_cons, List.map_nil]
          repeat (first | (refine Rel.wpA_b (by rfl) ?_) | (refine Rel.wpA_step (by rfl) fun K hK => ?_; go_simp; first | (refine hK _ ?_; clear hK K) | (apply Exists.intro; refine ⟨fun _ => ?_, hK _ ?_⟩; (go_at_call 24; exact cAdd _); clear hK K)))
          refine Rel.wpA_nil ?_
          refine Rel.wpB_step _ rfl rfl (fun p' hx => ?_) (fun x11 => ?_)
          · refine rU_of (fr := false) (r := .ok (.enter 22 #[.int .u64 n2, .pointer (some ⟨w.heap.size, 0, none⟩), .pointer (some ⟨w4.heap.size, 0, none⟩)]) (later wd p')) (by kernel_rfl) (by kernel_rfl) ?_
            exact rU_row (cR2 p')
          refine Rel.wpB_step _ rfl rfl (fun p' hx => ?_) (fun x13 => ?_)
          · refine rU_of (fr := false) (r := .ok (.enter 15 #[.slice ua u.length uc]) (later wd p')) (by kernel_rfl) (by kernel_rfl) ?_
            exact rU_sl (cO1 p')
          refine Rel.wpB_step _ rfl rfl (fun p' hx => ?_) (fun x15 => ?_)
          · refine rU_of (fr := false) (r := .ok (.enter 15 #[.slice sa s.length sc]) (later wd p')) (by kernel_rfl) (by kernel_rfl) ?_
            exact rU_sl (cO2 p')
          refine Rel.wpB_nil ?_
          intro p' hctx hfr
          simp only [List.nil_append, List.cons_append, List.mem_cons, List.not_mem_nil, or_false, forall_eq_or_imp, forall_eq] at hctx
          obtain ⟨rw11, own13, own15⟩ := hctx
          have hbo := below_later wd p'
          clear hfr k0 c0 kx y1 cAdd cR2 cO1 cO2 g0 g2 gV
          generalize later wd p' = we at *
          replace own9 := own9.mono hbo
          replace o13 := o13.mono hbo
          replace hB := below2 hB hbo
          clear hbo
          obtain ⟨ra2, rc2, r2, rfl, hR2, a2, b2, d2⟩ := rw11
          obtain ⟨ad13, c13, rfl, sl13, _, _⟩ := Own.sl own13
          obtain ⟨ad15, c15, rfl, sl15, _, _⟩ := Own.sl own15
          have hq := hQ2.out r2 n2 a2 b2 d2 hfa.out
          rw [if_neg hz3.out, if_neg hz3.out] at hq
          have cS2 := cS ra2 rc2 r2
          simp only [hq.1, hq.2] at cS2
          clear own13 own15 hq a2 b2 d2
          go_wp2_with fail
          refine (cS2 ad13 c13 ad15 c15 we hR2 (hH.mono hB) sl13 sl15).mono ?_
          rintro e wf ⟨v15, rfl, o15, hbo⟩
          replace own9 := own9.mono hbo
          replace o13 := o13.mono hbo
          replace hB := below2 hB hbo
          clear hbo o15 sl13 sl15 hR2 cS2
          go_wp2_with fail
          refine hK _ _ (by kernel_rfl) ?_
          clear hK K
          refine Rel.any_later_tail 21 (by kernel_rfl) ?_
          simp only [Rel.seg2]
          repeat (first | simp only [List.take_succ_cons] | simp only [List.take_zero] | simp only [List.drop_succ_cons] | simp only [List.drop_zero] | simp only [Nat.reduceAdd] | simp only [Nat.reduceLT] | simp only [if_true] | simp only [if_false] | simp only [Rel.quietOp] | simp only [Rel.laterOp] | simp only [List.contains_nil] | simp only [List.contains_cons] | simp only [Nat.reduceBEq] | simp only [Bool.or_false] | simp only [Bool.false_or] | simp only [Bool.or_self] | simp only [Bool.true_or] | simp only [Bool.or_true] | simp only [Bool.false_eq_true])
          repeat (first | go_big_quiet_step (first | fail) | quiet_step (first | fail))
          refine wpQuiet_nil ?_
          intro wg hbo
          replace hbo := below_of_later hbo
          replace own9 := own9.mono hbo
          replace o13 := o13.mono hbo
          replace hB := below2 hB hbo
          clear hbo
          have sl9 := Own.sl_of own9
          obtain ⟨a13, c13, rfl, s13, _, _⟩ := Own.sl o13
          clear o13 own9
          go_wp2_with fail
          refine (rSame1_any a13 (some ⟨g, 0, none⟩) c13 c9 L L wg s13 sl9 (by omega)).mono ?_
          rintro e wh ⟨rfl, hbh⟩
          rw [decide_eq_true rfl]
          go_wp2
          go_ret
          exact ⟨rfl, below2 hB hbh⟩
    · have hE2 : (satE p pub vars R sec H u s != 0) = true := by simpa using hE
      obtain ⟨L, hL⟩ : ∃ L, L = satL p pub vars R sec H u s := ⟨_, rfl⟩
      obtain ⟨E, hE3⟩ : ∃ E, E = satE p pub vars R sec H u s := ⟨_, rfl⟩
      rw [← hL, ← hE3] at cA
      rw [← hE3] at hE2
      clear hE hL hE3 hAu hAs hwf hat2 hby2 hRl
      go_enter Try.func8, Try.ntmps8
      go_wp2_with fail
      refine name_calls fun W hN => ?_
      have g0 : Blk W w.heap.size #[.int .u64 p, .int .i64 pub, .int .i64 vars, .slice ra R.length rc, .int .i64 sec, .slice ha H.length hc] 28 := by rw [hN]; exact ((Blk.newAt rfl).alloc _).alloc _
      have g1 : Blk W (w.heap.size + 1) #[.slice ua u.length uc, .slice sa s.length sc] 46 := by rw [hN]; exact (Blk.newAt (by simp)).alloc _
      have g2 : Blk W (w.heap.size + 1 + 1) #[.int .u8 at_, .int .u64 by_] 48 := by rw [hN]; exact Blk.newAt (by simp)
      have hB : Below w.heap.size w W := by rw [hN]; exact (((Below.refl _ _).alloc (Nat.le_refl _) _).alloc (by simp) _).alloc (by simp; omega) _
      clear hN
      refine (awake22 W).mono ?_
      rintro e w1 ⟨rfl, hb1⟩
      replace g0 := g0.mono hb1
      replace g1 := g1.mono hb1
      replace g2 := g2.mono hb1
      replace hB := below2 hB hb1
      clear hb1
      have i0 := cell_later' (g1.cell (j := 0) (v := .slice ua u.length uc) rfl)
      have i1 := cell_later' (g1.cell (j := 1) (v := .slice sa s.length sc) rfl)
      go_wp2_with fail
      refine wp_region_later Try.mixed (by kernel_rfl) ?_
      repeat (quiet_step (first | fail))
      refine wpQuiet_nil ?_
      intro w2 hb2
      replace hb2 := below_of_later hb2
      clear i0 i1 g1
      replace g0 := g0.mono hb2
      replace g2 := g2.mono hb2
      replace hB := below2 hB hb2
      clear hb2
      have k0 := g0.cell (j := 0) (v := .int .u64 p) rfl; have k1 := g0.cell (j := 1) (v := .int .i64 pub) rfl; have k2 := g0.cell (j := 2) (v := .int .i64 vars) rfl; have k3 := g0.cell (j := 3) (v := .slice ra R.length rc) rfl; have k4 := g0.cell (j := 4) (v := .int .i64 sec) rfl; have k5 := g0.cell (j := 5) (v := .slice ha H.length hc) rfl
      have hg0 := g0.lt
      go_wp2_with fail
      refine name_calls fun W2 hN => ?_
      have hb3 : Below w2.heap.size w2 W2 := by rw [hN]; exact (Below.refl _ _).alloc (Nat.le_refl _) _
      have gS : Blk W2 w2.heap.size #[.slice ua u.length uc, .slice sa s.length sc] 32 := by rw [hN]; exact Blk.newAt rfl
      clear hN k0 k1 k2 k3 k4 k5 hg0
      replace g0 := g0.mono hb3
      replace g2 := g2.mono hb3
      replace hB := below2 hB hb3
      clear hb3
      refine (cSh _ W2 (hR.mono hB) (hH.mono hB) gS).mono ?_
      rintro e w3 ⟨rfl, hb3⟩
      replace g0 := g0.mono hb3
      replace g2 := g2.mono hb3
      replace hB := below2 hB hb3
      clear hb3 gS cSh
      go_wp2_with fail
      refine Rel.region_any Try.mixed fun w3d hbd => ?_
      replace g0 := g0.mono hbd
      replace g2 := g2.mono hbd
      replace hB := below2 hB hbd
      clear hbd
      refine Rel.any_seg_k 7 [] (by kernel_rfl) fun K hK => ?_
      have k0 := cell_later' (g0.cell (j := 0) (v := .int .u64 p) rfl); have k1 := cell_later' (g0.cell (j := 1) (v := .int .i64 pub) rfl); have k2 := cell_later' (g0.cell (j := 2) (v := .int .i64 vars) rfl); have k3 := cell_later' (g0.cell (j := 3) (v := .slice ra R.length rc) rfl); have k4 := cell_later' (g0.cell (j := 4) (v := .int .i64 sec) rfl); have k5 := cell_later' (g0.cell (j := 5) (v := .slice ha H.length hc) rfl)
      simp only [List.take_succ_cons, List.take_zero]
      refine Rel.any_mix (w0 := w3d) 5 [] [(2, fun v w => Own w w3d.heap.size 22 .u64 v u), (4, fun v w => Own w w3d.heap.size 22 .u64 v s)] ⟨⟨w3d.drawn, #[]⟩, by simp [later]⟩ (by kernel_rfl) (by kernel_rfl) ?_ ?_
      · intro z hz v q q' h1 h2
        simp only [List.mem_cons, List.not_mem_nil, or_false] at hz
        rcases hz with rfl | rfl
        · exact Own.mono h1 h2
        · exact Own.mono h1 h2
      simp only [List.take_succ_cons, List.take_zero, List.drop_succ_cons, List.drop_zero, List.map_cons, List.map_nil]
      repeat (first | (refine Rel.wpA_b (by rfl) ?_) | (refine Rel.wpA_step (by rfl) fun K hK => ?_; go_simp; refine hK _ ?_; clear hK K))
      refine Rel.wpA_nil ?_
      refine Rel.wpB_step _ rfl rfl (fun p' hx => ?_) (fun x2 => ?_)
      · refine rU_of (fr := false) (r := .ok (.enter 15 #[.slice ua u.length uc]) (later w3d p')) (by kernel_rfl) (by kernel_rfl) ?_
        exact rU_sl (own22_any ua uc u _ ((hu.mono hB).mono (below_later _ _)) (by omega))
      refine Rel.wpB_step _ rfl rfl (fun p' hx => ?_) (fun x4 => ?_)
      · refine rU_of (fr := false) (r := .ok (.enter 15 #[.slice sa s.length sc]) (later w3d p')) (by kernel_rfl) (by kernel_rfl) ?_
        exact rU_sl (own22_any sa sc s _ ((hs.mono hB).mono (below_later _ _)) (by omega))
      refine Rel.wpB_nil ?_
      intro p' hctx hfr
      simp only [List.nil_append, List.cons_append, List.mem_cons, List.not_mem_nil, or_false, forall_eq_or_imp, forall_eq] at hctx
      obtain ⟨own2, own4⟩ := hctx
      have hbo := below_later w3d p'
      clear hfr k0 k1 k2 k3 k4 k5
      generalize later w3d p' = w3e at *
      replace g0 := g0.mono hbo
      replace g2 := g2.mono hbo
      replace hB := below2 hB hbo
      clear hbo
      obtain ⟨ad2, c2', rfl, sl2, _, _⟩ := Own.sl own2
      obtain ⟨ad4, c4', rfl, sl4, _, _⟩ := Own.sl own4
      clear own2 own4
      go_wp2_with fail
      refine (cA ad2 c2' ad4 c4' w3e (hR.mono hB) (hH.mono hB) sl2 sl4).mono ?_
      rintro e w3f ⟨v9, rfl, own_v9, hbo⟩
      replace g0 := g0.mono hbo
      replace g2 := g2.mono hbo
      replace hB := below2 hB hbo
      clear hbo sl2 sl4
      go_wp2_with fail
      refine hK _ _ (by kernel_rfl) ?_
      clear hK K
      refine Rel.any_later_tail 10 (by kernel_rfl) ?_
      simp only [Rel.seg2]
      repeat (first | simp only [List.take_succ_cons] | simp only [List.take_zero] | simp only [List.drop_succ_cons] | simp only [List.drop_zero] | simp only [Nat.reduceAdd] | simp only [Nat.reduceLT] | simp only [if_true] | simp only [if_false] | simp only [Rel.quietOp] | simp only [Rel.laterOp] | simp only [List.contains_nil] | simp only [List.contains_cons] | simp only [Nat.reduceBEq] | simp only [Bool.or_false] | simp only [Bool.false_or] | simp only [Bool.or_self] | simp only [Bool.true_or] | simp only [Bool.or_true] | simp only [Bool.false_eq_true])
      repeat (first | go_big_quiet_step (first | fail) | quiet_step (first | fail))
      refine wpQuiet_nil ?_
      intro w4 hbo
      replace hbo := below_of_later hbo
      replace g0 := g0.mono hbo
      replace g2 := g2.mono hbo
      replace hB := below2 hB hbo
      replace own_v9 := own_v9.mono hbo
      clear hbo
      clear cA g2
      obtain ⟨a9, c9, rfl, _, _, _⟩ := Own.sl own_v9
      go_wp2
      go_ret
      exact ⟨rfl, hB⟩

set_option maxRecDepth 100000 in
theorem lifted (os : Os) (started : os.Started) (H : Type) (enc : TypeId × Value → H) :
    ReturnsInHanded {} Try.checked os 8 .any (Rows.assignRequiresSpec.pre6 enc Try.prog Try.f8 Rows.assignRequiresRow.domain false) (Rows.assignRequiresSpec.post enc Try.prog Try.f8 false true false false) := by
  refine returnsInHanded_of_change (C := Try.checked) own started (by kernel_rfl) Try.func8
    (ChangeSpec.witness6 (enc := enc) (C := Try.checked) false ⟨#[], #[.agg #[.int .u64 0, .int .i64 0, .int .i64 0, .slice none 0 0, .int .i64 0, .slice none 0 0], .agg #[.slice none 0 0, .slice none 0 0], .agg #[.int .u8 0, .int .u64 0]], []⟩ 8 (by kernel_rfl) (by kernel_rfl) (by kernel_rfl) (by kernel_rfl)) ?_
  intro W base args ds gs before hval0 hW hcnd _
  have hval : ∀ (j : Nat) t v, Try.f8.params[j]? = some t → args[j]? = some v → Value.okWide Try.prog W .any base t v := hval0
  have hW' := hW
  obtain ⟨p, q, hA0, hV, rfl, hfz, hnd⟩ := hW
  have hA : DataW.TrodAll enc Try.prog W 0 (fun _ => true) true Try.f8.params.toList args.toList ds p := hA0
  rw [Try.params8] at hA hval
  obtain ⟨v0, vs0, d0, ds0, p0, q0, hargs, rfl, rfl, h0, r0⟩ := trodAll_cons hA
  obtain ⟨v1, vs1, d1, ds1, p1, q1, rfl, rfl, rfl, h1, r1⟩ := trodAll_cons r0
  obtain ⟨v2, vs2, d2, ds2, p2, q2, rfl, rfl, rfl, h2, r2⟩ := trodAll_cons r1
  obtain ⟨rfl, rfl, rfl⟩ := trodAll_nil r2
  obtain rfl : args = #[v0, v1, v2] := by cases args; simp_all
  obtain ⟨rfl, rfl⟩ := trodVars_none hV
  have k0 := h0
  have k1 := h1
  have k2 := h2
  obtain ⟨p0, pub0, vars0, ra0, rc0, R0, sec0, ha0, hc0, H0, rfl, wc0, hR0, hH0⟩ := open_circ h0 (hval 0 28 v0 rfl rfl)
  obtain ⟨v1_0, v1_1, y1_0, y1_1, n1, rfl, rfl, rfl, t1_0, t1_1⟩ := Joins.open_agg2 Try.underlying46 (by kernel_rfl) (by kernel_rfl) (hval 1 46 v1 rfl rfl) h1
  obtain ⟨ad1_0, cap1_0, xs1_0, rfl, S1_0⟩ := open_slice_f Try.underlying32 Try.underlying22 (by kernel_rfl) t1_0 (fun x hx => hW'.lt x (by simp [hx]))
  obtain ⟨ad1_1, cap1_1, xs1_1, rfl, S1_1⟩ := open_slice_f Try.underlying32 Try.underlying22 (by kernel_rfl) t1_1 (fun x hx => hW'.lt x (by simp [hx]))
  obtain ⟨v2_0, v2_1, y2_0, y2_1, n2, rfl, rfl, rfl, t2_0, t2_1⟩ := Joins.open_agg2 Try.underlying48 (by kernel_rfl) (by kernel_rfl) (hval 2 48 v2 rfl rfl) h2
  obtain ⟨a2_0, e2_0, _, w2_0⟩ := DataW.trod_int Try.underlying5 t2_0
  simp only [List.cons.injEq, and_true] at e2_0
  subst e2_0
  obtain ⟨a2_1, e2_1, _, w2_1⟩ := DataW.trod_int Try.underlying22 t2_1
  simp only [List.cons.injEq, and_true] at e2_1
  subst e2_1
  clear hA0 hval0
  simp only [List.append_nil] at hW'
  refine (walk p0 pub0 vars0 ra0 rc0 R0 sec0 ha0 hc0 H0 ad1_0 cap1_0 xs1_0 ad1_1 cap1_1 xs1_1 a2_0 a2_1 W wc0 hR0 hH0 S1_0 S1_1 w2_0 w2_1).mono fun e W' ⟨he, hg⟩ => ?_
  subst he
  exact ⟨_, rfl, post_of_below (pv := []) hW' (fun _ _ _ => (trodAll_cons_mk (shut_bool Try.underlying4 _) trodAll_mk0))
    (fun sp _ hsp => by subst hsp; exact (trodAll_cons_mk (Below.trod Try.laidOut (by kernel_rfl) (of_decide_eq_true (by kernel_rfl)) k0 hg (fun x hx => hW'.lt x (by simp [hx]))) (trodAll_cons_mk (Below.trod Try.laidOut (by kernel_rfl) (of_decide_eq_true (by kernel_rfl)) k1 hg (fun x hx => hW'.lt x (by simp only [List.mem_append, or_assoc] at hx ⊢; rcases hx with h | h <;> simp [h]))) (trodAll_cons_mk (Below.trod Try.laidOut (by kernel_rfl) (of_decide_eq_true (by kernel_rfl)) k2 hg (fun x hx => hW'.lt x (by simp only [List.mem_append, or_assoc] at hx ⊢; rcases hx with h | h <;> simp [h]))) trodAll_mk0)))) (fun _ _ => rfl) (by simp) hg⟩

theorem closed : joinedFacts Try.prog 8 Try.f8 Rows.assignRequiresSpec Rows.assignRequiresRow = true := by
  unfold joinedFacts
  rw [Try.mayEnter, Try.liftsFinal, Try.make]
  kernel_rfl

theorem proved : Rows.AssignRequiresSaid :=
  OpenClaim.holds_of_wide 8 Try.f8 rfl rfl rfl rfl rfl rfl rfl ⟨rfl, rfl, rfl, rfl, rfl⟩ rfl rfl rfl rfl rfl (by kernel_rfl) Try.func8 closed
    (of_decide_eq_true (by kernel_rfl)) (by unfold Func.isWrapper; first | (rw [if_pos (by decide +kernel)]; kernel_rfl) | (rw [if_neg (by decide +kernel)]; exact ⟨rfl, rfl⟩))
    (fun os started H enc _ => lifted os started H enc)
#print axioms proved
end assignRequires
end Go.Proofs.Ytlflkddgdbdebaa
