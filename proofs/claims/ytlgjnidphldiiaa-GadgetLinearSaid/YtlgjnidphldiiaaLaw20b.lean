/- GadgetLinear: Constant, Add, Sub and Scale return the specified linear combinations. -/
import Derived.Test.YtlgjnidphldiiaaGadW
import Derived.Test.YtlgjnidphldiiaaFrame
import Derived.Test.YtlgjnidphldiiaaSeg
namespace Go.Proofs.Ytlgjnidphldiiaa
open Go.ChangeShapes Go.WideShapes Go.ChangeAt Go.RowKit
namespace gadgetLinear

set_option maxRecDepth 10000 in
set_option maxHeartbeats 16000000 in
theorem walk (p : Int) (x y : Lc) (n : Int) (w : World) (_ : (Lit.int .u64 p).wf = true) (hx : LcOk w x) (hy : LcOk w y) (hn : (Lit.int .u64 n).wf = true) :
    Calls Try.prog 4 #[.agg #[.int .u64 p, .slice x.ad x.l.length x.cap, .slice y.ad y.l.length y.cap, .int .u64 n]] w fun e w' => e = .returned (.bool true) ∧ Below w.heap.size w w' := by
  have hn2 := wf_u64 hn
  have cV := fun W => rValid_any p W
  have cR := fun W h1 h2 => right20_any p n x y W h1 h2
  have hok : (vld p = true → rightB p x.l y.l = true) → (vld p = true → CoefOk p x.l) ∧ (vld p = true → CoefOk p y.l) ∧ (vld p = true → x.l.length ≤ 30 ∧ y.l.length ≤ 30) := fun h => by
    have key : vld p = true → x.l.length ≤ 30 ∧ y.l.length ≤ 30 ∧ linOk p 4611686018427387904 x.l = true ∧ linOk p 4611686018427387904 y.l = true := fun hv => by
      have := h hv
      unfold rightB at this
      simp only [Bool.and_eq_true, decide_eq_true_eq] at this
      exact ⟨this.1.1.1, this.1.1.2, this.1.2, this.2⟩
    exact ⟨fun hv => coef_of_lin hx.wl (key hv).2.2.1, fun hv => coef_of_lin hy.wl (key hv).2.2.2, fun hv => ⟨(key hv).1, (key hv).2.1⟩⟩
  obtain ⟨V, hV⟩ : ∃ V, V = vld p := ⟨_, rfl⟩
  obtain ⟨Rb, hRb⟩ : ∃ Rb, Rb = rightB p x.l y.l := ⟨_, rfl⟩
  rw [← hV] at hok
  simp only [← hV] at cV
  rw [← hRb] at hok
  simp only [← hRb] at cR
  by_cases hno : V = true ∧ Rb = false
  · obtain ⟨e1, e2⟩ := hno
    subst e1 e2
    clear hV hRb hok
    go_enter Try.func4, Try.ntmps4
    go_wp2_with fail
    refine name_calls fun w1 hN => ?_
    have g1 : Blk w1 w.heap.size #[.int .u64 p, .slice x.ad x.l.length x.cap, .slice y.ad y.l.length y.cap, .int .u64 n] 48 := by rw [hN]; exact Blk.newAt rfl
    have hB : Below w.heap.size w w1 := by rw [hN]; exact (Below.refl _ _).alloc (Nat.le_refl _) _
    clear hN
    refine (awake20 w1).mono ?_
    rintro e w2 ⟨rfl, hb⟩
    replace g1 := g1.mono hb
    replace hB := below2 hB hb
    have k0 := g1.cell (j := 0) (v := .int .u64 p) rfl
    go_wp2_with fail
    refine (cV w2).mono ?_
    rintro e w3 ⟨rfl, hb⟩
    replace g1 := g1.mono hb
    replace hB := below2 hB hb
    clear k0
    have k0 := g1.cell (j := 0) (v := .int .u64 p) rfl
    have k1 := g1.cell (j := 1) (v := .slice x.ad x.l.length x.cap) rfl
    have k2 := g1.cell (j := 2) (v := .slice y.ad y.l.length y.cap) rfl
    have k3 := g1.cell (j := 3) (v := .int .u64 n) rfl
    go_wp2_with fail
    refine (cR w3 (hx.mono hB) (hy.mono hB)).mono ?_
    rintro e w4 ⟨rfl, hb⟩
    replace hB := below2 hB hb
    go_wp2_with fail
    refine (awake20 w4).mono ?_
    rintro e w5 ⟨rfl, hb⟩
    go_wp2
    go_ret
    exact ⟨rfl, below2 hB hb⟩
  · obtain ⟨hcx, hcy, hle⟩ := hok (fun h => by cases Rb with | true => rfl | false => exact absurd ⟨h, rfl⟩ hno)
    have hle2 : vld p = true → x.l.length + y.l.length ≤ 100000000 := fun h => by have := hle (by rw [hV]; exact h); omega
    have hle3 : vld p = true → x.l.length ≤ 100000000 := fun h => by have := hle (by rw [hV]; exact h); omega
    obtain ⟨q1, q2, q3⟩ := lin_same (n := n) (p := p) (x := x.l) (y := y.l) (fun h => hcx (by rw [hV]; exact h)) (fun h => hcy (by rw [hV]; exact h))
    have a1 := fun W h1 h2 => gAdd_any p x y W h1 h2 hle2
    have a2 := fun W h1 h2 => rAddL_any p x y W h1 h2 hle2
    have b1 := fun W h1 h2 => gSub_any p x y W h1 h2 hle2
    have b2 := fun W h1 h2 => rSub20_any p x y W h1 h2 hle2
    have c1 := fun W h1 => gScale_any p n x W h1 hle3 hn2
    have c2 := fun W h1 => rScale_any p n x W h1 hle3 hn2
    have d1 := fun W => Constant20_any p n W hn2
    have d2 := fun W => rConstant20_any p n W hn2
    have hA9 : Hid ((if vld p = true then radd p x.l y.l else []).length ≤ 1000000000) := hide (by
      rw [← q1]; unfold addP; split
      · rename_i hv; have := comb_len p 1 x.l y.l; have := hle2 hv; omega
      · simp)
    have hS9 : Hid ((if vld p = true then radd p x.l (rscale p y.l (p - 1)) else []).length ≤ 1000000000) := hide (by
      rw [← q2]; unfold addP; split
      · rename_i hv; have := comb_len p (fneg p 1) x.l y.l; have := hle2 hv; omega
      · simp)
    have hC9 : Hid ((if vld p = true then rscale p x.l n else []).length ≤ 1000000000) := hide (by
      rw [← q3]; unfold addP; split
      · rename_i hv; have h1 := comb_len p n [] x.l; have := hle3 hv; simp only [List.length_nil] at h1; omega
      · simp)
    have h09 : Hid ((keepT (0, fred p n)).length ≤ 1000000000) := hide (by unfold keepT; split <;> simp)
    rw [q1] at a1
    rw [q2] at b1
    rw [q3] at c1
    generalize (if vld p = true then radd p x.l y.l else []) = LA at *
    generalize (if vld p = true then radd p x.l (rscale p y.l (p - 1)) else []) = LS at *
    generalize (if vld p = true then rscale p x.l n else []) = LC at *
    generalize keepT (0, fred p n) = L0 at *
    clear q1 q2 q3 hcx hcy hle hle2 hle3 hok hn hV hRb
    go_enter Try.func4, Try.ntmps4
    go_wp2_with fail
    refine name_calls fun w1 hN => ?_
    have g1 : Blk w1 w.heap.size #[.int .u64 p, .slice x.ad x.l.length x.cap, .slice y.ad y.l.length y.cap, .int .u64 n] 48 := by rw [hN]; exact Blk.newAt rfl
    have hB : Below w.heap.size w w1 := by rw [hN]; exact (Below.refl _ _).alloc (Nat.le_refl _) _
    clear hN
    refine (awake20 w1).mono ?_
    rintro e w2 ⟨rfl, hb⟩
    replace g1 := g1.mono hb
    replace hB := below2 hB hb
    have k0 := g1.cell (j := 0) (v := .int .u64 p) rfl
    clear hb
    go_wp2_with fail
    refine (cV w2).mono ?_
    rintro e w3 ⟨rfl, hb⟩
    replace g1 := g1.mono hb
    replace hB := below2 hB hb
    clear k0 hb cV
    cases V
    case' false =>
      clear cR hno
      go_wp2_with fail
    case' true =>
      obtain rfl : Rb = true := by
        cases Rb with
        | false => exact absurd ⟨rfl, rfl⟩ hno
        | true => rfl
      have k0 := g1.cell (j := 0) (v := .int .u64 p) rfl
      have k1 := g1.cell (j := 1) (v := .slice x.ad x.l.length x.cap) rfl
      have k2 := g1.cell (j := 2) (v := .slice y.ad y.l.length y.cap) rfl
      have k3 := g1.cell (j := 3) (v := .int .u64 n) rfl
      go_wp2_with fail
      refine (cR w3 (hx.mono hB) (hy.mono hB)).mono ?_
      rintro e w4 ⟨rfl, hb⟩
      replace g1 := g1.mono hb
      replace hB := below2 hB hb
      clear k0 k1 k2 k3 hb cR hno
      go_wp2_with fail
    all_goals
      refine Rel.region_any Try.mixed fun wd hbd => ?_
      replace g1 := g1.mono hbd
      replace hB := below2 hB hbd
      clear hbd
      have k0 := cell_later' (g1.cell (j := 0) (v := .int .u64 p) rfl)
      have k3 := cell_later' (g1.cell (j := 3) (v := .int .u64 n) rfl)
      refine Rel.any_seg_k 12 [] (by kernel_rfl) fun K hK => ?_
      simp only [List.take_succ_cons, List.take_zero]
      refine Rel.any_mix (w0 := wd) 10 [] [(4, IsLn L0), (9, IsLn L0)] ⟨⟨wd.drawn, #[]⟩, by simp [later]⟩ (by kernel_rfl) (by kernel_rfl) ?_ ?_
      · intro z hz v u u' h1 h2
        simp only [List.mem_cons, List.not_mem_nil, or_false] at hz
        rcases hz with rfl | rfl
        · exact IsLn.mono h1 h2
        · exact IsLn.mono h1 h2
      simp only [List.take_succ_cons, List.take_zero, List.drop_succ_cons, List.drop_zero, List.map_cons, List.map_nil]
      repeat (first | (refine Rel.wpA_b (by rfl) ?_) | (refine Rel.wpA_step (by rfl) fun K hK => ?_; go_simp; refine hK _ ?_; clear hK K))
      refine Rel.wpA_nil ?_
      refine Rel.wpB_step _ rfl rfl (fun p' hq => ?_) (fun v4 => ?_)
      · refine rU_of' (fr := false) (r := .ok (.enter 24 #[.int .u64 p, .int .u64 n]) (later wd p')) (by kernel_rfl) (by kernel_rfl) ?_
        exact rU_ln (d1 _)
      refine Rel.wpB_step _ rfl rfl (fun p' hq => ?_) (fun v9 => ?_)
      · refine rU_of' (fr := false) (r := .ok (.enter 25 #[.int .u64 p, .int .u64 n]) (later wd p')) (by kernel_rfl) (by kernel_rfl) ?_
        exact rU_ln (d2 _)
      refine Rel.wpB_nil ?_
      intro p' hctx hfr
      simp only [List.nil_append, List.cons_append, List.mem_cons, List.not_mem_nil, or_false, forall_eq_or_imp, forall_eq] at hctx
      obtain ⟨⟨s, rfl, es, hs⟩, ⟨t, rfl, et, ht⟩⟩ := hctx
      have hbo := below_later wd p'
      clear hfr k0 k3 d1 d2
      generalize later wd p' = we at *
      replace g1 := g1.mono hbo
      replace hB := below2 hB hbo
      clear hbo
      have hl0 : Hid (s.l = t.l) := hide (by rw [es.out, et.out])
      have cS := SameLin_any s t we hs.ok ht.ok (by rw [es.out]; exact h09.out)
      rw [decide_eq_true hl0.out] at cS
      clear es et hs ht
      go_wp2_with fail
      refine cS.mono ?_
      rintro e wf ⟨rfl, hbo⟩
      replace g1 := g1.mono hbo
      replace hB := below2 hB hbo
      clear hbo cS hl0
      go_wp2_with fail
      refine hK _ _ (by kernel_rfl) ?_
      clear hK K
      have k0 := cell_later' (g1.cell (j := 0) (v := .int .u64 p) rfl)
      have k1 := cell_later' (g1.cell (j := 1) (v := .slice x.ad x.l.length x.cap) rfl)
      have k2 := cell_later' (g1.cell (j := 2) (v := .slice y.ad y.l.length y.cap) rfl)
      have k3 := cell_later' (g1.cell (j := 3) (v := .int .u64 n) rfl)
      refine Rel.any_seg_k 29 [] (by kernel_rfl) fun K hK => ?_
      simp only [Rel.seg2]
      repeat (first | simp only [List.take_succ_cons] | simp only [List.take_zero] | simp only [List.drop_succ_cons] | simp only [List.drop_zero] | simp only [Nat.reduceAdd] | simp only [Nat.reduceLT] | simp only [if_true] | simp only [if_false] | simp only [Rel.quietOp] | simp only [Rel.laterOp] | simp only [List.contains_nil] | simp only [List.contains_cons] | simp only [Nat.reduceBEq] | simp only [Bool.or_false] | simp only [Bool.false_or] | simp only [Bool.or_self] | simp only [Bool.true_or] | simp only [Bool.or_true] | simp only [Bool.false_eq_true])
      refine Rel.any_mix (w0 := wf) 26 [] [(18, IsLn LA), (25, IsLn LA)] ⟨⟨wf.drawn, #[]⟩, by simp [later]⟩ (by kernel_rfl) (by kernel_rfl) ?_ ?_
      · intro z hz v u u' h1 h2
        simp only [List.mem_cons, List.not_mem_nil, or_false] at hz
        rcases hz with rfl | rfl
        · exact IsLn.mono h1 h2
        · exact IsLn.mono h1 h2
      simp only [List.take_succ_cons, List.take_zero, List.drop_succ_cons, List.drop_zero, List.map_cons, List.map_nil]
      repeat (first | (refine Rel.wpA_b (by rfl) ?_) | (refine Rel.wpA_step (by rfl) fun K hK => ?_; go_simp; refine hK _ ?_; clear hK K))
      refine Rel.wpA_nil ?_
      refine Rel.wpB_step _ rfl rfl (fun p' hq => ?_) (fun va => ?_)
      · refine rU_of' (fr := false) (r := .ok (.enter 26 #[.int .u64 p, .slice x.ad x.l.length x.cap, .slice y.ad y.l.length y.cap]) (later wf p')) (by kernel_rfl) (by kernel_rfl) ?_
        exact rU_ln (a1 _ ((hx.mono hB).mono (below_later _ _)) ((hy.mono hB).mono (below_later _ _)))
      refine Rel.wpB_step _ rfl rfl (fun p' hq => ?_) (fun vb => ?_)
      · refine rU_of' (fr := false) (r := .ok (.enter 27 #[.int .u64 p, .slice x.ad x.l.length x.cap, .slice y.ad y.l.length y.cap]) (later wf p')) (by kernel_rfl) (by kernel_rfl) ?_
        exact rU_ln (a2 _ ((hx.mono hB).mono (below_later _ _)) ((hy.mono hB).mono (below_later _ _)))
      refine Rel.wpB_nil ?_
      intro p' hctx hfr
      simp only [List.nil_append, List.cons_append, List.mem_cons, List.not_mem_nil, or_false, forall_eq_or_imp, forall_eq] at hctx
      obtain ⟨⟨s, rfl, es, hs⟩, ⟨t, rfl, et, ht⟩⟩ := hctx
      have hbo := below_later wf p'
      clear hfr k0 k1 k2 k3
      generalize later wf p' = wfe at *
      replace g1 := g1.mono hbo
      replace hB := below2 hB hbo
      clear hbo
      have hl0 : Hid (s.l = t.l) := hide (by rw [es.out, et.out])
      have cS := SameLin_any s t wfe hs.ok ht.ok (by rw [es.out]; exact hA9.out)
      rw [decide_eq_true hl0.out] at cS
      clear es et hs ht
      go_wp2_with fail
      refine cS.mono ?_
      rintro e wg ⟨rfl, hbo⟩
      replace g1 := g1.mono hbo
      replace hB := below2 hB hbo
      clear hbo cS hl0
      go_wp2_with fail
      refine hK _ _ (by kernel_rfl) ?_
      clear hK K
      have k0 := cell_later' (g1.cell (j := 0) (v := .int .u64 p) rfl)
      have k1 := cell_later' (g1.cell (j := 1) (v := .slice x.ad x.l.length x.cap) rfl)
      have k2 := cell_later' (g1.cell (j := 2) (v := .slice y.ad y.l.length y.cap) rfl)
      have k3 := cell_later' (g1.cell (j := 3) (v := .int .u64 n) rfl)
      refine Rel.any_seg_k 46 [] (by kernel_rfl) fun K hK => ?_
      simp only [Rel.seg2]
      repeat (first | simp only [List.take_succ_cons] | simp only [List.take_zero] | simp only [List.drop_succ_cons] | simp only [List.drop_zero] | simp only [Nat.reduceAdd] | simp only [Nat.reduceLT] | simp only [if_true] | simp only [if_false] | simp only [Rel.quietOp] | simp only [Rel.laterOp] | simp only [List.contains_nil] | simp only [List.contains_cons] | simp only [Nat.reduceBEq] | simp only [Bool.or_false] | simp only [Bool.false_or] | simp only [Bool.or_self] | simp only [Bool.true_or] | simp only [Bool.or_true] | simp only [Bool.false_eq_true])
      refine Rel.any_mix (w0 := wg) 43 [] [(35, IsLn LS), (42, IsLn LS)] ⟨⟨wg.drawn, #[]⟩, by simp [later]⟩ (by kernel_rfl) (by kernel_rfl) ?_ ?_
      · intro z hz v u u' h1 h2
        simp only [List.mem_cons, List.not_mem_nil, or_false] at hz
        rcases hz with rfl | rfl
        · exact IsLn.mono h1 h2
        · exact IsLn.mono h1 h2
      simp only [List.take_succ_cons, List.take_zero, List.drop_succ_cons, List.drop_zero, List.map_cons, List.map_nil]
      repeat (first | (refine Rel.wpA_b (by rfl) ?_) | (refine Rel.wpA_step (by rfl) fun K hK => ?_; go_simp; refine hK _ ?_; clear hK K))
      refine Rel.wpA_nil ?_
      refine Rel.wpB_step _ rfl rfl (fun p' hq => ?_) (fun va => ?_)
      · refine rU_of' (fr := false) (r := .ok (.enter 28 #[.int .u64 p, .slice x.ad x.l.length x.cap, .slice y.ad y.l.length y.cap]) (later wg p')) (by kernel_rfl) (by kernel_rfl) ?_
        exact rU_ln (b1 _ ((hx.mono hB).mono (below_later _ _)) ((hy.mono hB).mono (below_later _ _)))
      refine Rel.wpB_step _ rfl rfl (fun p' hq => ?_) (fun vb => ?_)
      · refine rU_of' (fr := false) (r := .ok (.enter 29 #[.int .u64 p, .slice x.ad x.l.length x.cap, .slice y.ad y.l.length y.cap]) (later wg p')) (by kernel_rfl) (by kernel_rfl) ?_
        exact rU_ln (b2 _ ((hx.mono hB).mono (below_later _ _)) ((hy.mono hB).mono (below_later _ _)))
      refine Rel.wpB_nil ?_
      intro p' hctx hfr
      simp only [List.nil_append, List.cons_append, List.mem_cons, List.not_mem_nil, or_false, forall_eq_or_imp, forall_eq] at hctx
      obtain ⟨⟨s, rfl, es, hs⟩, ⟨t, rfl, et, ht⟩⟩ := hctx
      have hbo := below_later wg p'
      clear hfr k0 k1 k2 k3
      generalize later wg p' = wge at *
      replace g1 := g1.mono hbo
      replace hB := below2 hB hbo
      clear hbo
      have hl0 : Hid (s.l = t.l) := hide (by rw [es.out, et.out])
      have cS := SameLin_any s t wge hs.ok ht.ok (by rw [es.out]; exact hS9.out)
      rw [decide_eq_true hl0.out] at cS
      clear es et hs ht
      go_wp2_with fail
      refine cS.mono ?_
      rintro e wh ⟨rfl, hbo⟩
      replace g1 := g1.mono hbo
      replace hB := below2 hB hbo
      clear hbo cS hl0
      go_wp2_with fail
      refine hK _ _ (by kernel_rfl) ?_
      clear hK K
      have k0 := cell_later' (g1.cell (j := 0) (v := .int .u64 p) rfl)
      have k1 := cell_later' (g1.cell (j := 1) (v := .slice x.ad x.l.length x.cap) rfl)
      have k2 := cell_later' (g1.cell (j := 2) (v := .slice y.ad y.l.length y.cap) rfl)
      have k3 := cell_later' (g1.cell (j := 3) (v := .int .u64 n) rfl)
      simp only [Rel.seg2]
      repeat (first | simp only [List.take_succ_cons] | simp only [List.take_zero] | simp only [List.drop_succ_cons] | simp only [List.drop_zero] | simp only [Nat.reduceAdd] | simp only [Nat.reduceLT] | simp only [if_true] | simp only [if_false] | simp only [Rel.quietOp] | simp only [Rel.laterOp] | simp only [List.contains_nil] | simp only [List.contains_cons] | simp only [Nat.reduceBEq] | simp only [Bool.or_false] | simp only [Bool.false_or] | simp only [Bool.or_self] | simp only [Bool.true_or] | simp only [Bool.or_true] | simp only [Bool.false_eq_true])
      refine Rel.any_mix (w0 := wh) 60 [] [(52, IsLn LC), (59, IsLn LC)] ⟨⟨wh.drawn, #[]⟩, by simp [later]⟩ (by kernel_rfl) (by kernel_rfl) ?_ ?_
      · intro z hz v u u' h1 h2
        simp only [List.mem_cons, List.not_mem_nil, or_false] at hz
        rcases hz with rfl | rfl
        · exact IsLn.mono h1 h2
        · exact IsLn.mono h1 h2
      simp only [List.take_succ_cons, List.take_zero, List.drop_succ_cons, List.drop_zero, List.map_cons, List.map_nil]
      repeat (first | (refine Rel.wpA_b (by rfl) ?_) | (refine Rel.wpA_step (by rfl) fun K hK => ?_; go_simp; refine hK _ ?_; clear hK K))
      refine Rel.wpA_nil ?_
      refine Rel.wpB_step _ rfl rfl (fun p' hq => ?_) (fun va => ?_)
      · refine rU_of' (fr := false) (r := .ok (.enter 30 #[.int .u64 p, .slice x.ad x.l.length x.cap, .int .u64 n]) (later wh p')) (by kernel_rfl) (by kernel_rfl) ?_
        exact rU_ln (c1 _ ((hx.mono hB).mono (below_later _ _)))
      refine Rel.wpB_step _ rfl rfl (fun p' hq => ?_) (fun vb => ?_)
      · refine rU_of' (fr := false) (r := .ok (.enter 31 #[.int .u64 p, .slice x.ad x.l.length x.cap, .int .u64 n]) (later wh p')) (by kernel_rfl) (by kernel_rfl) ?_
        exact rU_ln (c2 _ ((hx.mono hB).mono (below_later _ _)))
      refine Rel.wpB_nil ?_
      intro p' hctx hfr
      simp only [List.nil_append, List.cons_append, List.mem_cons, List.not_mem_nil, or_false, forall_eq_or_imp, forall_eq] at hctx
      obtain ⟨⟨s, rfl, es, hs⟩, ⟨t, rfl, et, ht⟩⟩ := hctx
      have hbo := below_later wh p'
      clear hfr k0 k1 k2 k3
      generalize later wh p' = whe at *
      replace g1 := g1.mono hbo
      replace hB := below2 hB hbo
      clear hbo
      have hl0 : Hid (s.l = t.l) := hide (by rw [es.out, et.out])
      have cS := SameLin_any s t whe hs.ok ht.ok (by rw [es.out]; exact hC9.out)
      rw [decide_eq_true hl0.out] at cS
      clear es et hs ht
      go_wp2_with fail
      refine cS.mono ?_
      rintro e wi ⟨rfl, hbo⟩
      replace g1 := g1.mono hbo
      replace hB := below2 hB hbo
      clear hbo cS hl0
      go_wp2
      go_ret
      exact ⟨rfl, hB⟩

set_option maxRecDepth 100000 in
theorem lifted (os : Os) (started : os.Started) (H : Type) (enc : TypeId × Value → H) :
    ReturnsInHanded {} Try.checked os 4 .any (Rows.gadgetLinearSpec.pre6 enc Try.prog Try.f4 Rows.gadgetLinearRow.domain false) (Rows.gadgetLinearSpec.post enc Try.prog Try.f4 false true false false) := by
  refine returnsInHanded_of_change (C := Try.checked) own started (by kernel_rfl) Try.func4
    (ChangeSpec.witness6 (enc := enc) (C := Try.checked) false ⟨#[], #[.agg #[.int .u64 0, .slice none 0 0, .slice none 0 0, .int .u64 0]], []⟩ 8 (by kernel_rfl) (by kernel_rfl) (by kernel_rfl) (by kernel_rfl)) ?_
  intro W base args ds gs before hval0 hW hcnd _
  have hval : ∀ (j : Nat) t v, Try.f4.params[j]? = some t → args[j]? = some v → Value.okWide Try.prog W .any base t v := hval0
  have hW' := hW
  obtain ⟨p, q, hA0, hV, rfl, hfz, hnd⟩ := hW
  have hA : DataW.TrodAll enc Try.prog W 0 (fun _ => true) true Try.f4.params.toList args.toList ds p := hA0
  rw [Try.params4] at hA hval
  obtain ⟨v0, vs0, d0, ds0, p0, q0, hargs, rfl, rfl, h0, r0⟩ := trodAll_cons hA
  obtain ⟨rfl, rfl, rfl⟩ := trodAll_nil r0
  obtain rfl : args = #[v0] := by cases args; simp_all
  obtain ⟨rfl, rfl⟩ := trodVars_none hV
  have k0 := h0
  obtain ⟨v0_0, v0_1, v0_2, v0_3, y0_0, y0_1, y0_2, y0_3, n0, rfl, rfl, rfl, t0_0, t0_1, t0_2, t0_3⟩ := Joins.open_agg4 Try.underlying48 (by kernel_rfl) (by kernel_rfl) (hval 0 48 v0 rfl rfl) h0
  obtain ⟨a0_0, e0_0, _, w0_0⟩ := DataW.trod_int Try.underlying22 t0_0
  simp only [List.cons.injEq, and_true] at e0_0
  subst e0_0
  obtain ⟨s0_1, e0_1, O0_1⟩ := open_lc t0_1
  simp only [List.cons.injEq, and_true] at e0_1
  subst e0_1
  obtain ⟨s0_2, e0_2, O0_2⟩ := open_lc t0_2
  simp only [List.cons.injEq, and_true] at e0_2
  subst e0_2
  obtain ⟨a0_3, e0_3, _, w0_3⟩ := DataW.trod_int Try.underlying22 t0_3
  simp only [List.cons.injEq, and_true] at e0_3
  subst e0_3
  clear hA0 hval0
  simp only [List.append_nil] at hW'
  refine (walk a0_0 s0_1 s0_2 a0_3 W w0_0 O0_1 O0_2 w0_3).mono fun e W' ⟨he, hg⟩ => ?_
  subst he
  exact ⟨_, rfl, post_of_below (pv := []) hW' (fun _ _ _ => (trodAll_cons_mk (shut_bool Try.underlying4 _) trodAll_mk0))
    (fun sp _ hsp => by subst hsp; exact (trodAll_cons_mk (Below.trod Try.laidOut (by kernel_rfl) (of_decide_eq_true (by kernel_rfl)) k0 hg (fun x hx => hW'.lt x (by simp only [List.mem_append, or_assoc] at hx ⊢; rcases hx with h | h | h | h <;> simp [h]))) trodAll_mk0)) (fun _ _ => rfl) (by simp) hg⟩

theorem closed : joinedFacts Try.prog 4 Try.f4 Rows.gadgetLinearSpec Rows.gadgetLinearRow = true := by
  unfold joinedFacts
  rw [Try.mayEnter, Try.liftsFinal, Try.make]
  kernel_rfl

theorem proved : Rows.GadgetLinearSaid :=
  OpenClaim.holds_of_wide 4 Try.f4 rfl rfl rfl rfl rfl rfl rfl ⟨rfl, rfl, rfl, rfl, rfl⟩ rfl rfl rfl rfl rfl (by kernel_rfl) Try.func4 closed
    (of_decide_eq_true (by kernel_rfl)) (by unfold Func.isWrapper; first | (rw [if_pos (by decide +kernel)]; kernel_rfl) | (rw [if_neg (by decide +kernel)]; exact ⟨rfl, rfl⟩))
    (fun os started H enc _ => lifted os started H enc)
#print axioms proved
end gadgetLinear
end Go.Proofs.Ytlgjnidphldiiaa
