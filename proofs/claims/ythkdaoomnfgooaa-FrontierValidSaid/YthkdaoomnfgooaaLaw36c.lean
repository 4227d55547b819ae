/- FrontierValid: Valid accepts exactly the valid frontiers, and Root returns the root of these. -/
import Derived.Test.YthkdaoomnfgooaaAwake36
import Derived.Test.YthkdaoomnfgooaaFronS
import Derived.Test.YthkdaoomnfgooaaSeg
import Derived.Test.YthkdaoomnfgooaaOpen
namespace Go.Proofs.Ythkdaoomnfgooaa
open Go.ChangeShapes Go.WideShapes Go.ChangeAt Go.RowKit
namespace frontierValid

theorem rUpon_retf {P : Program} {f : FuncId} {args : Array Value} {W : World} {p : Later} {d c : Int} {xs : List Int} (h : Calls P f args (later W p) (RetF (later W p) d c xs)) :
    Rel.rUpon P (later W p) false (fun v w => ∃ u, v = .agg #[.int .i64 d, .int .i64 c, u] ∧ Own w W.heap.size 30 .u64 u xs) (.ok (.enter f args) (later W p)) :=
  ⟨rfl, h.mono fun _ _ ⟨v, he, hown, hb⟩ => ⟨_, he, hb, ⟨v, rfl, hown.low (below_later W p).size⟩, fun h => by cases h⟩⟩

set_option maxRecDepth 10000 in
set_option maxHeartbeats 4000000 in
theorem walk (d c : Int) (ad : Option Addr) (cap : Nat) (L : List Int) (w : World) (_ : (Lit.int .i64 d).wf = true) (hc : (Lit.int .i64 c).wf = true) (S : SlP w .u64 ad cap L) :
    Calls Try.prog 3 #[.agg #[.int .i64 d, .int .i64 c, .slice ad L.length cap]] w fun e w' => e = .returned (.bool true) ∧ Below w.heap.size w w' := by
  obtain ⟨_, c1⟩ := wf_int hc
  have hs := S.sl
  have hw := wfs_u64 S.wf
  have cSm := fun W : World => small36_any d c ad cap L.length W
  clear S hc
  by_cases hsm : smallB d L.length = true
  · rw [hsm] at cSm
    have hl : L.length < 1099511627776 := by
      have h := (of_decide_eq_true hsm).1
      omega
    have cO := fun (W : World) hs => own36_any d c ad cap L W hs hl
    have cV1 := fun (ad : Option Addr) (cap : Nat) (W : World) hs => Valid_any d c ad cap L W hs hw hl c1
    have cR1 := fun (ad : Option Addr) (cap : Nat) (W : World) hs => Root_any d c ad cap L W hs hw hl c1
    have cV2 := fun (W : World) hs => rValid36_any d c ad cap L W hs hw hl c1
    have cR2 := fun (W : World) hs => rRoot36_any d c ad cap L W hs hw hl c1
    obtain ⟨V, hV⟩ : ∃ V, V = fvld d c L := ⟨_, rfl⟩
    obtain ⟨R, hR⟩ : ∃ R, R = froot d c L := ⟨_, rfl⟩
    rw [← hV] at cV1 cV2
    rw [← hR] at cR1 cR2
    have hRR : (R == R) = true := by simp
    have hVV : (V == V) = true := by simp
    clear hV hR hsm c1
    go_enter Try.func3, Try.ntmps3
    go_wp2_with fail
    refine name_calls fun W hW => ?_
    have g0 : Blk W w.heap.size #[.int .i64 d, .int .i64 c, .slice ad L.length cap] 24 := by rw [hW]; exact Blk.newAt rfl
    have hB : Below w.heap.size w W := by rw [hW]; exact (Below.refl _ _).alloc (Nat.le_refl _) _
    clear hW
    refine (awake36 W).mono ?_
    rintro e w1 ⟨rfl, hb1⟩
    replace g0 := g0.mono hb1
    replace hB := below2 hB hb1
    clear hb1
    have k0 := g0.cell (j := 0) (v := .int .i64 d) rfl; have k1 := g0.cell (j := 1) (v := .int .i64 c) rfl; have k2 := g0.cell (j := 2) (v := .slice ad L.length cap) rfl
    go_wp2_with fail
    refine (cSm w1).mono ?_
    rintro e w2 ⟨rfl, hb2⟩
    replace g0 := g0.mono hb2
    replace hB := below2 hB hb2
    clear hb2 cSm k0 k1 k2
    go_wp2_with fail
    refine Rel.region_any Try.mixed fun w3 hb3 => ?_
    replace g0 := g0.mono hb3
    replace hB := below2 hB hb3
    clear hb3
    refine Rel.any_seg_k 7 [] (by kernel_rfl) fun K hK => ?_
    have k0 := cell_later' (g0.cell (j := 0) (v := .int .i64 d) rfl); have k1 := cell_later' (g0.cell (j := 1) (v := .int .i64 c) rfl); have k2 := cell_later' (g0.cell (j := 2) (v := .slice ad L.length cap) rfl)
    simp only [List.take_succ_cons, List.take_zero]
    refine Rel.any_mix (w0 := w3) 5 [] [(1, fun v w => ∃ u, v = .agg #[.int .i64 d, .int .i64 c, u] ∧ Own w w3.heap.size 30 .u64 u L), (2, fun v _ => v = .bool V)] ⟨⟨w3.drawn, #[]⟩, by simp [later]⟩ (by kernel_rfl) (by kernel_rfl) ?_ ?_
    · intro z hz v u u' h1 h2
      simp only [List.mem_cons, List.not_mem_nil, or_false] at hz
      rcases hz with rfl | rfl
      · obtain ⟨z, h3, h4⟩ := h1
        exact ⟨z, h3, h4.mono h2⟩
      · exact h1
    simp only [List.take_succ_cons, List.take_zero, List.drop_succ_cons, List.drop_zero, List.map_cons, List.map_nil]
    repeat (first | (refine Rel.wpA_b (by rfl) ?_) | (refine Rel.wpA_step (by rfl) fun K hK => ?_; go_simp; first | (refine hK _ ?_; clear hK K) | (apply Exists.intro; refine ⟨fun _ => ?_, hK _ ?_⟩; (go_at_call 23; exact cV2 _ ((hs.mono hB).mono (below_later _ _))); clear hK K)))
    refine Rel.wpA_nil ?_
    refine Rel.wpB_step _ rfl rfl (fun p' hc => ?_) (fun v1 => ?_)
    · go_simp
      exact rUpon_retf (cO _ ((hs.mono hB).mono (below_later _ _)))
    refine Rel.wpB_step _ rfl rfl (fun p' hc => ?_) (fun v2 => ?_)
    · obtain ⟨u, rfl, ho⟩ := hc _ (List.Mem.head _) (by kernel_rfl)
      obtain ⟨a1, c1, rfl, s1, _, _⟩ := Own.sl ho
      go_simp
      exact rUpon_q (cV1 _ _ _ s1)
    refine Rel.wpB_nil ?_
    intro p' hctx hfr
    simp only [List.nil_append, List.cons_append, List.mem_cons, List.not_mem_nil, or_false, forall_eq_or_imp, forall_eq] at hctx
    obtain ⟨_, rfl⟩ := hctx
    have hb4 := below_later w3 p'
    clear hfr k0 k1 k2 cV1 cV2
    generalize later w3 p' = w4 at *
    replace g0 := g0.mono hb4
    replace hB := below2 hB hb4
    clear hb4
    go_wp2_with fail
    refine hK _ _ (by kernel_rfl) ?_
    clear hK K
    have k0 := cell_later' (g0.cell (j := 0) (v := .int .i64 d) rfl); have k1 := cell_later' (g0.cell (j := 1) (v := .int .i64 c) rfl); have k2 := cell_later' (g0.cell (j := 2) (v := .slice ad L.length cap) rfl)
    refine Rel.any_mix (w0 := w4) 12 [] [(8, fun v w => ∃ u, v = .agg #[.int .i64 d, .int .i64 c, u] ∧ Own w w4.heap.size 30 .u64 u L), (9, fun v _ => v = .int .u64 R)] ⟨⟨w4.drawn, #[]⟩, by simp [later]⟩ (by kernel_rfl) (by kernel_rfl) ?_ ?_
    · intro z hz v u u' h1 h2
      simp only [List.mem_cons, List.not_mem_nil, or_false] at hz
      rcases hz with rfl | rfl
      · obtain ⟨z, h3, h4⟩ := h1
        exact ⟨z, h3, h4.mono h2⟩
      · exact h1
    simp only [Rel.seg2]
    repeat (first | simp only [List.take_succ_cons] | simp only [List.take_zero] | simp only [List.drop_succ_cons] | simp only [List.drop_zero] | simp only [List.map_cons] | simp only [List.map_nil] | simp only [Nat.reduceAdd] | simp only [Nat.reduceLT] | simp only [if_true] | simp only [if_false] | simp only [Rel.quietOp] | simp only [Rel.laterOp] | simp only [List.contains_nil] | simp only [List.contains_cons] | simp only [Nat.reduceBEq] | simp only [Bool.or_false] | simp only [Bool.false_or] | simp only [Bool.or_self] | simp only [Bool.true_or] | simp only [Bool.or_true] | simp only [Bool.false_eq_true])
    repeat (first | (refine Rel.wpA_b (by rfl) ?_) | (refine Rel.wpA_step (by rfl) fun K hK => ?_; go_simp; first | (refine hK _ ?_; clear hK K) | (apply Exists.intro; refine ⟨fun _ => ?_, hK _ ?_⟩; (go_at_call 25; exact cR2 _ ((hs.mono hB).mono (below_later _ _))); clear hK K)))
    refine Rel.wpA_nil ?_
    refine Rel.wpB_step _ rfl rfl (fun p' hc => ?_) (fun v1 => ?_)
    · go_simp
      exact rUpon_retf (cO _ ((hs.mono hB).mono (below_later _ _)))
    refine Rel.wpB_step _ rfl rfl (fun p' hc => ?_) (fun v2 => ?_)
    · obtain ⟨u, rfl, ho⟩ := hc _ (List.Mem.head _) (by kernel_rfl)
      obtain ⟨a1, c1, rfl, s1, _, _⟩ := Own.sl ho
      go_simp
      exact rUpon_q (cR1 _ _ _ s1)
    refine Rel.wpB_nil ?_
    intro p' hctx hfr
    simp only [List.nil_append, List.cons_append, List.mem_cons, List.not_mem_nil, or_false, forall_eq_or_imp, forall_eq] at hctx
    obtain ⟨_, rfl⟩ := hctx
    have hb5 := below_later w4 p'
    clear hfr k0 k1 k2 cR1 cR2
    generalize later w4 p' = w5 at *
    replace hB := below2 hB hb5
    clear hb5
    go_wp2
    go_ret
    exact ⟨rfl, hB⟩
  · replace hsm : smallB d L.length = false := by simpa using hsm
    rw [hsm] at cSm
    clear hsm c1
    go_enter Try.func3, Try.ntmps3
    go_wp2_with fail
    refine name_calls fun W hW => ?_
    have g0 : Blk W w.heap.size #[.int .i64 d, .int .i64 c, .slice ad L.length cap] 24 := by rw [hW]; exact Blk.newAt rfl
    have hB : Below w.heap.size w W := by rw [hW]; exact (Below.refl _ _).alloc (Nat.le_refl _) _
    clear hW
    refine (awake36 W).mono ?_
    rintro e w1 ⟨rfl, hb1⟩
    replace g0 := g0.mono hb1
    replace hB := below2 hB hb1
    clear hb1
    have k0 := g0.cell (j := 0) (v := .int .i64 d) rfl; have k1 := g0.cell (j := 1) (v := .int .i64 c) rfl; have k2 := g0.cell (j := 2) (v := .slice ad L.length cap) rfl
    go_wp2_with fail
    refine (cSm w1).mono ?_
    rintro e w2 ⟨rfl, hb2⟩
    replace hB := below2 hB hb2
    clear hb2 cSm k0 k1 k2 g0
    go_wp2_with fail
    refine (awake36 _).mono ?_
    rintro ew3 w3 ⟨rfl, hb3⟩
    go_wp2
    go_ret
    exact ⟨rfl, below2 hB hb3⟩

set_option maxRecDepth 100000 in
theorem lifted (os : Os) (started : os.Started) (H : Type) (enc : TypeId × Value → H) :
    ReturnsInHanded {} Try.checked os 3 .any (Rows.frontierValidSpec.pre6 enc Try.prog Try.f3 Rows.frontierValidRow.domain false) (Rows.frontierValidSpec.post enc Try.prog Try.f3 false true false false) := by
  refine returnsInHanded_of_change (C := Try.checked) own started (by kernel_rfl) Try.func3
    (ChangeSpec.witness6 (enc := enc) (C := Try.checked) false ⟨#[], #[.agg #[.int .i64 0, .int .i64 0, .slice none 0 0]], []⟩ 8 (by kernel_rfl) (by kernel_rfl) (by kernel_rfl) (by kernel_rfl)) ?_
  intro W base args ds gs before hval0 hW hcnd _
  have hval : ∀ (j : Nat) t v, Try.f3.params[j]? = some t → args[j]? = some v → Value.okWide Try.prog W .any base t v := hval0
  have hW' := hW
  obtain ⟨p, q, hA0, hV, rfl, hfz, hnd⟩ := hW
  have hA : DataW.TrodAll enc Try.prog W 0 (fun _ => true) true Try.f3.params.toList args.toList ds p := hA0
  rw [Try.params3] at hA hval
  obtain ⟨v0, vs0, d0, ds0, p0, q0, hargs, rfl, rfl, h0, r0⟩ := trodAll_cons hA
  obtain ⟨rfl, rfl, rfl⟩ := trodAll_nil r0
  obtain rfl : args = #[v0] := by cases args; simp_all
  obtain ⟨rfl, rfl⟩ := trodVars_none hV
  have k0 := h0
  obtain ⟨v0_0, v0_1, v0_2, y0_0, y0_1, y0_2, n0, rfl, rfl, rfl, t0_0, t0_1, t0_2⟩ := Joins.open_agg3 Try.underlying24 (by kernel_rfl) (by kernel_rfl) (hval 0 24 v0 rfl rfl) h0
  obtain ⟨a0_0, e0_0, _, w0_0⟩ := DataW.trod_int Try.underlying3 t0_0
  simp only [List.cons.injEq, and_true] at e0_0
  subst e0_0
  obtain ⟨a0_1, e0_1, _, w0_1⟩ := DataW.trod_int Try.underlying3 t0_1
  simp only [List.cons.injEq, and_true] at e0_1
  subst e0_1
  obtain ⟨ad0_2, cap0_2, xs0_2, rfl, S0_2⟩ := open_slice_f Try.underlying22 Try.underlying30 (by kernel_rfl) t0_2 (fun x hx => hW'.lt x (by simp [hx]))
  clear hA0 hval0
  simp only [List.append_nil] at hW'
  refine (walk a0_0 a0_1 ad0_2 cap0_2 xs0_2 W w0_0 w0_1 S0_2).mono fun e W' ⟨he, hg⟩ => ?_
  subst he
  exact ⟨_, rfl, post_of_below (pv := []) hW' (fun _ _ _ => (trodAll_cons_mk (shut_bool Try.underlying4 _) trodAll_mk0))
    (fun sp _ hsp => by subst hsp; exact (trodAll_cons_mk (Below.trod Try.laidOut (by kernel_rfl) (of_decide_eq_true (by kernel_rfl)) k0 hg (fun x hx => hW'.lt x (by simp [hx]))) trodAll_mk0)) (fun _ _ => rfl) (by simp) hg⟩

theorem closed : joinedFacts Try.prog 3 Try.f3 Rows.frontierValidSpec Rows.frontierValidRow = true := by
  unfold joinedFacts
  rw [Try.mayEnter, Try.liftsFinal, Try.make]
  kernel_rfl

theorem proved : Rows.FrontierValidSaid :=
  OpenClaim.holds_of_wide 3 Try.f3 rfl rfl rfl rfl rfl rfl rfl ⟨rfl, rfl, rfl, rfl, rfl⟩ rfl rfl rfl rfl rfl (by kernel_rfl) Try.func3 closed
    (of_decide_eq_true (by kernel_rfl)) (by unfold Func.isWrapper; first | (rw [if_pos (by decide +kernel)]; kernel_rfl) | (rw [if_neg (by decide +kernel)]; exact ⟨rfl, rfl⟩))
    (fun os started H enc _ => lifted os started H enc)
#print axioms proved
end frontierValid
end Go.Proofs.Ythkdaoomnfgooaa
