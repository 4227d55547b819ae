/- Gadgets: Less, Or of the program. -/
import Derived.Test.YtlgjnidphldiiaaGadK
namespace Go.Proofs.Ytlgjnidphldiiaa
open Go.RowKit

/-- What Less returns, on values. -/
def lessX (p : Int) (n : Nat) (x y : Lin) : Lin := subL p (addL p (keepT (0, fred p ((2 : Int) ^ n))) x) y
def gLess (S : St) (x y : Lin) (n : Nat) : St × Lin := (gBits S (lessX S.p n x y) (n + 1), gNot S.p [(S.vars + (n : Int), 1)])

set_option maxRecDepth 10000 in
set_option maxHeartbeats 8000000 in
theorem Less20_any (base b : Nat) (S : St) (N : Int) (x y : Lc) (n : Nat) (w : World) (h : Bld w base b S) (hv : vld S.p = true) (hS : Bd S N) (hN : N ≤ 900000000) (hx : LinT w x) (hy : LinT w y) (lx : x.l.length ≤ 100000) (ly : y.l.length ≤ 100000) (hn : n ≤ 61) :
    Calls Try.prog 43 #[.pointer (some ⟨b, 0, none⟩), .slice x.ad x.l.length x.cap, .slice y.ad y.l.length y.cap, .int .i64 n] w (RetB w base b (gLess S x.l y.l n).1 (gLess S x.l y.l n).2) := by
  have hb0 := h.lt
  obtain ⟨cs, g, hc0⟩ := h.cell0
  have hpw : (2 : Int) ^ n < 18446744073709551616 ∧ 0 ≤ (2 : Int) ^ n := ⟨by
    have : 2 ^ n ≤ 2 ^ 62 := Nat.pow_le_pow_right (by decide) (by omega)
    have h2 : ((2 : Int) ^ n) = ((2 ^ n : Nat) : Int) := (Int.natCast_pow 2 n).symm
    rw [h2]; omega, Int.pow_nonneg (by decide)⟩
  have hwp : IntKind.u64.wrap ((2 : Int) ^ n) = (2 : Int) ^ n := by rw [IntKind.wrap_u64]; omega
  have hwn : IntKind.i64.wrap (n : Int) = n := by rw [IntKind.wrap_i64]; omega
  have hwn1 : IntKind.i64.wrap ((n : Int) + 1) = n + 1 := by rw [IntKind.wrap_i64]; omega
  have hk0 : (0 : Int) ≤ n := by omega
  have q1 : decide ((n : Int) < 0) = false := decide_eq_false (by omega)
  have q2 : decide ((62 : Int) ≤ n) = false := decide_eq_false (by omega)
  have c0 := cell_later' (g.cell hc0)
  go_enter Try.func43, Try.ntmps43
  go_wp2_with fail
  refine Rel.wp_region_later_tail 7 Try.mixed (by kernel_rfl) ?_
  simp only [List.take_succ_cons, List.take_zero, List.drop_succ_cons, List.drop_zero]
  repeat (first | go_big_quiet_step (first | fail) | quiet_step (first | fail))
  refine wpQuiet_nil ?_
  intro w1 hb1
  replace hb1 := below_of_later hb1
  have cC := Constant20_any S.p ((2 : Int) ^ n) w1 ⟨hpw.2, hpw.1⟩
  go_wp2_with fail
  refine cC.mono ?_
  rintro e w2 ⟨c, rfl, ec, hc, hb2⟩
  replace hb1 := below2 hb1 hb2
  clear hb2 cC c0 hwp hwn q2
  have g2 := g.mono hb1
  have c0 := cell_later' (g2.cell hc0)
  have lc : c.l.length ≤ 1 := by rw [ec.out]; unfold keepT; split <;> simp
  go_wp2_with fail
  refine Rel.wp_region_mix 18 [] [(13, IsLn (addL S.p c.l x.l)), (15, IsLn (subL S.p (addL S.p c.l x.l) y.l))] Try.mixed (by kernel_rfl) (by kernel_rfl) ?_ ?_
  rotate_left
  simp only [List.take_succ_cons, List.take_zero, List.drop_succ_cons, List.drop_zero, List.map_cons, List.map_nil]
  repeat (first | (refine Rel.wpA_b (by rfl) ?_) | (refine Rel.wpA_step (by rfl) fun K hK => ?_; go_simp; first | (refine hK _ ?_; clear hK K) | (apply Exists.intro; refine ⟨fun _ => ?_, hK _ ?_⟩; (first | fail); clear hK K)))
  refine Rel.wpA_nil ?_
  rotate_left
  · intro z hz v u u' h1 h2
    simp only [List.mem_cons, List.not_mem_nil, or_false] at hz
    rcases hz with rfl | rfl
    · exact IsLn.mono h1 h2
    · exact IsLn.mono h1 h2
  refine Rel.wpB_step _ rfl rfl (fun p' hq => ?_) (fun v13 => ?_)
  · refine rU_of' (fr := false) (r := .ok (.enter 26 #[.int .u64 S.p, .slice c.ad c.l.length c.cap, .slice x.ad x.l.length x.cap]) (later w2 p')) (by kernel_rfl) (by kernel_rfl) ?_
    exact rU_ln (gAdd_any S.p c x _ (hc.mono (below_later _ _)).ok ((hx.mono hb1).mono (below_later _ _)).ok (fun _ => by omega))
  refine Rel.wpB_step _ rfl rfl (fun p' hq => ?_) (fun v15 => ?_)
  · have h13 : IsLn (addL S.p c.l x.l) v13 (later w2 p') := hq _ (List.Mem.head _) (by kernel_rfl)
    obtain ⟨a, rfl, ea, ha⟩ := h13
    refine rU_of' (fr := false) (r := .ok (.enter 28 #[.int .u64 S.p, .slice a.ad a.l.length a.cap, .slice y.ad y.l.length y.cap]) (later w2 p')) (by kernel_rfl) (by kernel_rfl) ?_
    have la := addP_len S.p c.l x.l 1
    have := gSub_any S.p a y (later w2 p') ha.ok ((hy.mono hb1).mono (below_later _ _)).ok (fun _ => by rw [ea.out]; unfold addL; omega)
    rw [show addP S.p a.l y.l (fneg S.p 1) = subL S.p (addL S.p c.l x.l) y.l by rw [ea.out]; rfl] at this
    exact rU_ln this
  refine Rel.wpB_nil ?_
  intro p' hctx hfr
  simp only [List.nil_append, List.cons_append, List.mem_cons, List.not_mem_nil, or_false, forall_eq_or_imp, forall_eq] at hctx
  obtain ⟨_, ⟨d, rfl, ed, hd⟩⟩ := hctx
  have hb3 := below_later w2 p'
  clear hfr c0
  generalize later w2 p' = w3 at *
  replace hb1 := below2 hb1 hb3
  clear hb3
  have la := addP_len S.p c.l x.l 1
  have ls := addP_len S.p (addL S.p c.l x.l) y.l (fneg S.p 1)
  have ld : d.l.length ≤ 400000 := by rw [ed.out]; unfold subL; unfold addL at ls ⊢; omega
  have cB := Bits20_any base b S N d (n + 1) w3 (h.mono hb1) hv hS hN hd ld (by omega)
  rw [show d.l = lessX S.p n x.l y.l by rw [ed.out, ec.out]; rfl] at cB
  rw [show (lessX S.p n x.l y.l).length = d.l.length by rw [ed.out, ec.out]; rfl] at cB
  push_cast at cB
  clear la ls lc hc hx hy
  go_wp2_with fail
  refine cB.mono ?_
  rintro e w4 ⟨v4, Ls, rfl, o4, hLl, hLs, hB4, k4⟩
  clear cB
  rcases o4.form with ⟨_, h0⟩ | ⟨gb, cap, cur, e4, _, gb4, hcap, _⟩
  · rw [h0] at hLl; simp at hLl
  subst e4
  have he := o4.cellE (i := n) (j := 0) default (by omega) (by decide) rfl
  rw [show n * lcL.m + 0 = n from by show n * 1 + 0 = n; omega] at he
  obtain ⟨hz, ez⟩ := hLs n (by omega)
  generalize Ls.getD n default = z at *
  have he' : w4.cell? ⟨gb, n, none⟩ = some (.slice z.ad z.l.length z.cap) := he
  obtain ⟨cs4, g4, hc4⟩ := hB4.cell0
  rw [show (gBits S (lessX S.p n x.l y.l) (n + 1)).p = S.p from bitsS_p S _ (n + 1)] at hc4
  have cN := Not20_any b cs4 _ S.p z w4 g4 hc4 hv hz.ok (by rw [ez]; simp)
  rw [show gNot S.p z.l = (gLess S x.l y.l n).2 by rw [ez]; rfl] at cN
  have hnl : (n : Int) < Ls.length := by omega
  replace hLl := hide hLl
  replace ez := hide ez
  clear he hLs hcap
  go_wp2_with fail
  refine cN.mono ?_
  rintro e w5 ⟨r, rfl, er, hr, hb5⟩
  clear cN
  go_wp2
  go_ret
  exact ⟨r, rfl, er, hr, hB4.mono hb5, ((Kept.of_below hb1 hb0).trans k4).trans (Kept.of_below hb5 hB4.lt)⟩

set_option maxRecDepth 10000 in
set_option maxHeartbeats 4000000 in
theorem Or20_any (base b : Nat) (S : St) (N : Int) (x y : Lc) (w : World) (h : Bld w base b S) (hv : vld S.p = true) (hS : Bd S N) (hN : N ≤ 900000000) (hx : LinT w x) (hy : LinT w y) (lx : x.l.length ≤ 100000) (ly : y.l.length ≤ 100000) :
    Calls Try.prog 47 #[.pointer (some ⟨b, 0, none⟩), .slice x.ad x.l.length x.cap, .slice y.ad y.l.length y.cap] w (RetB w base b (gOr S x.l y.l).1 (gOr S x.l y.l).2) := by
  have cM := Mul20_any base b S N x y w h hv hS (by omega) hx hy (by omega) (by omega)
  go_enter Try.func47, Try.ntmps47
  go_wp2_with fail
  refine cM.mono ?_
  rintro e w2 ⟨m, rfl, em, hm, hB2, k2⟩
  obtain ⟨cs, g2, hc0⟩ := hB2.cell0
  have c0 := cell_later' (g2.cell hc0)
  have lm : m.l.length = 1 := by rw [em.out]; rfl
  replace lm := hide lm
  replace hx := k2.lin hx
  replace hy := k2.lin hy
  clear cM
  go_wp2_with fail
  refine Rel.wp_region_mix 14 [] [(12, IsLn (addL S.p x.l y.l))] Try.mixed (by kernel_rfl) (by kernel_rfl) ?_ ?_
  rotate_left
  simp only [List.take_succ_cons, List.take_zero, List.drop_succ_cons, List.drop_zero, List.map_cons, List.map_nil]
  repeat (first | (refine Rel.wpA_b (by rfl) ?_) | (refine Rel.wpA_step (by rfl) fun K hK => ?_; go_simp; first | (refine hK _ ?_; clear hK K) | (apply Exists.intro; refine ⟨fun _ => ?_, hK _ ?_⟩; (first | fail); clear hK K)))
  refine Rel.wpA_nil ?_
  rotate_left
  · intro z hz v u u' h1 h2
    simp only [List.mem_cons, List.not_mem_nil, or_false] at hz
    subst hz
    exact IsLn.mono h1 h2
  refine Rel.wpB_step _ rfl rfl (fun p' hq => ?_) (fun v12 => ?_)
  · refine rU_of' (fr := false) (r := .ok (.enter 26 #[.int .u64 S.p, .slice x.ad x.l.length x.cap, .slice y.ad y.l.length y.cap]) (later w2 p')) (by kernel_rfl) (by kernel_rfl) ?_
    exact rU_ln (gAdd_any S.p x y _ (hx.mono (below_later _ _)).ok (hy.mono (below_later _ _)).ok (fun _ => by omega))
  refine Rel.wpB_nil ?_
  intro p' hctx hfr
  simp only [List.nil_append, List.mem_cons, List.not_mem_nil, or_false, forall_eq] at hctx
  obtain ⟨a, rfl, ea, ha⟩ := hctx
  have hb3 := below_later w2 p'
  clear hfr c0
  generalize later w2 p' = w3 at *
  have la := addP_len S.p x.l y.l 1
  have cS := gSub_any S.p a m w3 ha.ok (hm.mono hb3).ok (fun _ => by rw [ea.out, lm.out]; unfold addL; omega)
  rw [show addP S.p a.l m.l (fneg S.p 1) = (gOr S x.l y.l).2 by rw [ea.out, em.out]; rfl] at cS
  clear la hx hy
  go_wp2_with fail
  refine cS.mono ?_
  rintro e w4 ⟨r, rfl, er, hr, hb4⟩
  clear cS
  go_wp2
  go_ret
  exact ⟨r, rfl, er, hr, hB2.mono (below2 hb3 hb4), k2.trans (Kept.of_below (below2 hb3 hb4) hB2.lt)⟩
end Go.Proofs.Ytlgjnidphldiiaa
