/- SpongeSqueeze: Squeeze returns the specified elements. -/
import Derived.Test.YtaklpdhhcnnclaaAwake8
import Derived.Test.YtaklpdhhcnnclaaOpen
namespace Go.Proofs.Ytaklpdhhcnnclaa
open Go.ChangeShapes Go.WideShapes Go.ChangeAt Go.RowKit

theorem wf_i64 {x : Int} (h : (Lit.int .i64 x).wf = true) : -9223372036854775808 ≤ x ∧ x < 9223372036854775808 := by
  simp [Lit.wf, IntKind.min, IntKind.max, IntKind.signed, IntKind.bits] at h
  omega
theorem squeeze_len (p lb : Int) (xs : List Int) (n : Int) : (squeeze p lb xs n).length ≤ 65536 := by
  unfold squeeze
  split
  · rename_i h
    simp [sqT]
    omega
  · simp

namespace spongeSqueeze

set_option maxRecDepth 10000 in
set_option maxHeartbeats 2000000 in
theorem walk (p lb : Int) (ad : Option Addr) (c : Nat) (xs : List Int) (n : Int) (w : World) (_ : (Lit.int .u64 p).wf = true) (hl : (Lit.int .u64 lb).wf = true) (S : SlP w .u64 ad c xs) (hn : (Lit.int .i64 n).wf = true) :
    Calls Try.prog 15 #[.agg #[.int .u64 p, .int .u64 lb, .slice ad xs.length c, .int .i64 n]] w fun e w' => e = .returned (.bool true) ∧ Below w.heap.size w w' := by
  obtain ⟨l0, l1⟩ := wf_u64 hl
  obtain ⟨n0, n1⟩ := wf_i64 hn
  have hs := S.sl
  have hw := wfs_u64 S.wf
  clear S hl hn
  have c1 := fun (W : World) hs hl => Squeeze_any p lb n ad c xs W l0 l1 n0 n1 hs hw hl
  have c2 := fun (W : World) hs hl => rSqueeze_any p lb n ad c xs W l0 l1 n0 n1 hs hw hl
  have hlr := squeeze_len p lb xs n
  obtain ⟨r, hr⟩ : ∃ r, r = squeeze p lb xs n := ⟨_, rfl⟩
  rw [← hr] at c1 c2 hlr
  replace hlr := hide hlr
  clear hr l0 l1 n0 n1 hw
  go_enter Try.func15, Try.ntmps15
  go_wp2_with fail
  refine name_calls fun W hW => ?_
  have g0 : Blk W w.heap.size #[.int .u64 p, .int .u64 lb, .slice ad xs.length c, .int .i64 n] 43 := by rw [hW]; exact Blk.newAt rfl
  have hB : Below w.heap.size w W := by rw [hW]; exact (Below.refl _ _).alloc (Nat.le_refl _) _
  clear hW
  refine (awake8 W).mono ?_
  rintro e w1 ⟨rfl, hb1⟩
  replace hB := below2 hB hb1
  replace g0 := g0.mono hb1
  clear hb1
  have q2 := g0.cell (j := 2) (v := .slice ad xs.length c) rfl
  have q3 := g0.cell (j := 3) (v := .int .i64 n) rfl
  by_cases h40 : xs.length ≤ 40
  · by_cases hn : n ≤ 100 ∨ 65536 < n
    · have hnn : (decide (100 < n) && decide (n ≤ 65536)) = false := by simp; omega
      obtain hn1 | hn1 : n ≤ 100 ∨ 65536 < n := hn
      · go_wp2_with fail
        have k0 := cell_later' (g0.cell (j := 0) (v := .int .u64 p) rfl); have k1 := cell_later' (g0.cell (j := 1) (v := .int .u64 lb) rfl); have k2 := cell_later' (g0.cell (j := 2) (v := .slice ad xs.length c) rfl); have k3 := cell_later' (g0.cell (j := 3) (v := .int .i64 n) rfl)
        clear q2 q3
        refine Rel.wp_region_mix 18 [] [(8, fun v w => Own w w1.heap.size 22 .u64 v r), (17, fun v w => Own w w1.heap.size 22 .u64 v r)] Try.mixed (by kernel_rfl) (by kernel_rfl) ?_ ?_
        rotate_left
        simp only [List.take_succ_cons, List.take_zero, List.drop_succ_cons, List.drop_zero, List.map_cons, List.map_nil]
        repeat (first | (refine Rel.wpA_b (by rfl) ?_) | (refine Rel.wpA_step (by rfl) fun K hK => ?_; go_simp; first | (refine hK _ ?_; clear hK K) | (apply Exists.intro; refine ⟨fun _ => ?_, hK _ ?_⟩; (first | fail); clear hK K)))
        refine Rel.wpA_nil ?_
        rotate_left
        · intro z hz v u u' h1 h2
          simp only [List.mem_cons, List.not_mem_nil, or_false] at hz
          rcases hz with rfl | rfl <;> exact Own.mono h1 h2
        refine Rel.wpB_step _ rfl rfl (fun p' hc => ?_) (fun v8 => ?_)
        · go_simp
          exact rUpon_sl (c1 _ ((hs.mono hB).mono (below_later _ _)) (by omega))
        refine Rel.wpB_step _ rfl rfl (fun p' hc => ?_) (fun v17 => ?_)
        · go_simp
          exact rUpon_sl (c2 _ ((hs.mono hB).mono (below_later _ _)) (by omega))
        refine Rel.wpB_nil ?_
        intro p' hctx hfr
        simp only [List.nil_append, List.cons_append, List.mem_cons, List.not_mem_nil, or_false, forall_eq_or_imp, forall_eq] at hctx
        obtain ⟨o1, o2⟩ := hctx
        have hb4 := below2 hB (below_later w1 p')
        clear hfr c1 c2 k0 k1 k2 k3
        generalize later w1 p' = w4 at *
        obtain ⟨ad1, c1, rfl, s1, _, _⟩ := Own.sl o1
        obtain ⟨ad2, c2, rfl, s2, _, _⟩ := Own.sl o2
        clear o1 o2
        go_wp2_with fail
        refine (rSame4_any ad1 ad2 c1 c2 r r w4 s1 s2 (by have := hlr.out; omega)).mono ?_
        rintro e w5 ⟨rfl, hb5⟩
        have hd : decide (r = r) = true := by simp
        rw [hd]
        go_wp2
        go_ret
        exact ⟨rfl, below2 hb4 hb5⟩
      · go_wp2_with fail
        have k0 := cell_later' (g0.cell (j := 0) (v := .int .u64 p) rfl); have k1 := cell_later' (g0.cell (j := 1) (v := .int .u64 lb) rfl); have k2 := cell_later' (g0.cell (j := 2) (v := .slice ad xs.length c) rfl); have k3 := cell_later' (g0.cell (j := 3) (v := .int .i64 n) rfl)
        clear q2 q3
        refine Rel.wp_region_mix 18 [] [(8, fun v w => Own w w1.heap.size 22 .u64 v r), (17, fun v w => Own w w1.heap.size 22 .u64 v r)] Try.mixed (by kernel_rfl) (by kernel_rfl) ?_ ?_
        rotate_left
        simp only [List.take_succ_cons, List.take_zero, List.drop_succ_cons, List.drop_zero, List.map_cons, List.map_nil]
        repeat (first | (refine Rel.wpA_b (by rfl) ?_) | (refine Rel.wpA_step (by rfl) fun K hK => ?_; go_simp; first | (refine hK _ ?_; clear hK K) | (apply Exists.intro; refine ⟨fun _ => ?_, hK _ ?_⟩; (first | fail); clear hK K)))
        refine Rel.wpA_nil ?_
        rotate_left
        · intro z hz v u u' h1 h2
          simp only [List.mem_cons, List.not_mem_nil, or_false] at hz
          rcases hz with rfl | rfl <;> exact Own.mono h1 h2
        refine Rel.wpB_step _ rfl rfl (fun p' hc => ?_) (fun v8 => ?_)
        · go_simp
          exact rUpon_sl (c1 _ ((hs.mono hB).mono (below_later _ _)) (by omega))
        refine Rel.wpB_step _ rfl rfl (fun p' hc => ?_) (fun v17 => ?_)
        · go_simp
          exact rUpon_sl (c2 _ ((hs.mono hB).mono (below_later _ _)) (by omega))
        refine Rel.wpB_nil ?_
        intro p' hctx hfr
        simp only [List.nil_append, List.cons_append, List.mem_cons, List.not_mem_nil, or_false, forall_eq_or_imp, forall_eq] at hctx
        obtain ⟨o1, o2⟩ := hctx
        have hb4 := below2 hB (below_later w1 p')
        clear hfr c1 c2 k0 k1 k2 k3
        generalize later w1 p' = w4 at *
        obtain ⟨ad1, c1, rfl, s1, _, _⟩ := Own.sl o1
        obtain ⟨ad2, c2, rfl, s2, _, _⟩ := Own.sl o2
        clear o1 o2
        go_wp2_with fail
        refine (rSame4_any ad1 ad2 c1 c2 r r w4 s1 s2 (by have := hlr.out; omega)).mono ?_
        rintro e w5 ⟨rfl, hb5⟩
        have hd : decide (r = r) = true := by simp
        rw [hd]
        go_wp2
        go_ret
        exact ⟨rfl, below2 hb4 hb5⟩
    · have hn1 : 100 < n := by omega
      have hn2 : n ≤ 65536 := by omega
      go_wp2_with fail
      refine (awake8 _).mono ?_
      rintro ew2 w2 ⟨rfl, hb2⟩
      go_wp2
      go_ret
      exact ⟨rfl, below2 hB hb2⟩
  · have h41 : 40 < xs.length := by omega
    go_wp2_with fail
    refine (awake8 _).mono ?_
    rintro ew2 w2 ⟨rfl, hb2⟩
    go_wp2
    go_ret
    exact ⟨rfl, below2 hB hb2⟩

set_option maxRecDepth 100000 in
theorem lifted (os : Os) (started : os.Started) (H : Type) (enc : TypeId × Value → H) :
    ReturnsInHanded {} Try.checked os 15 .any (Rows.spongeSqueezeSpec.pre6 enc Try.prog Try.f15 Rows.spongeSqueezeRow.domain false) (Rows.spongeSqueezeSpec.post enc Try.prog Try.f15 false true false false) := by
  refine returnsInHanded_of_change (C := Try.checked) own started (by kernel_rfl) Try.func15
    (ChangeSpec.witness6 (enc := enc) (C := Try.checked) false ⟨#[], #[.agg #[.int .u64 0, .int .u64 0, .slice none 0 0, .int .i64 0]], []⟩ 8 (by kernel_rfl) (by kernel_rfl) (by kernel_rfl) (by kernel_rfl)) ?_
  intro W base args ds gs before hval0 hW hcnd _
  have hval : ∀ (j : Nat) t v, Try.f15.params[j]? = some t → args[j]? = some v → Value.okWide Try.prog W .any base t v := hval0
  have hW' := hW
  obtain ⟨p, q, hA0, hV, rfl, hfz, hnd⟩ := hW
  have hA : DataW.TrodAll enc Try.prog W 0 (fun _ => true) true Try.f15.params.toList args.toList ds p := hA0
  rw [Try.params15] at hA hval
  obtain ⟨v0, vs0, d0, ds0, p0, q0, hargs, rfl, rfl, h0, r0⟩ := trodAll_cons hA
  obtain ⟨rfl, rfl, rfl⟩ := trodAll_nil r0
  obtain rfl : args = #[v0] := by cases args; simp_all
  obtain ⟨rfl, rfl⟩ := trodVars_none hV
  have k0 := h0
  obtain ⟨v0_0, v0_1, v0_2, v0_3, y0_0, y0_1, y0_2, y0_3, n0, rfl, rfl, rfl, t0_0, t0_1, t0_2, t0_3⟩ := Joins.open_agg4 Try.underlying43 (by kernel_rfl) (by kernel_rfl) (hval 0 43 v0 rfl rfl) h0
  obtain ⟨a0_0, e0_0, _, w0_0⟩ := DataW.trod_int Try.underlying22 t0_0
  simp only [List.cons.injEq, and_true] at e0_0
  subst e0_0
  obtain ⟨a0_1, e0_1, _, w0_1⟩ := DataW.trod_int Try.underlying22 t0_1
  simp only [List.cons.injEq, and_true] at e0_1
  subst e0_1
  obtain ⟨ad0_2, cap0_2, xs0_2, rfl, S0_2⟩ := open_slice_f Try.underlying31 Try.underlying22 (by kernel_rfl) t0_2 (fun x hx => hW'.lt x (by simp [hx]))
  obtain ⟨a0_3, e0_3, _, w0_3⟩ := DataW.trod_int Try.underlying3 t0_3
  simp only [List.cons.injEq, and_true] at e0_3
  subst e0_3
  clear hA0 hval0
  simp only [List.append_nil] at hW'
  refine (walk a0_0 a0_1 ad0_2 cap0_2 xs0_2 a0_3 W w0_0 w0_1 S0_2 w0_3).mono fun e W' ⟨he, hg⟩ => ?_
  subst he
  exact ⟨_, rfl, post_of_below (pv := []) hW' (fun _ _ _ => (trodAll_cons_mk (shut_bool Try.underlying4 _) trodAll_mk0))
    (fun sp _ hsp => by subst hsp; exact (trodAll_cons_mk (Below.trod Try.laidOut (by kernel_rfl) (of_decide_eq_true (by kernel_rfl)) k0 hg (fun x hx => hW'.lt x (by simp [hx]))) trodAll_mk0)) (fun _ _ => rfl) (by simp) hg⟩

theorem closed : joinedFacts Try.prog 15 Try.f15 Rows.spongeSqueezeSpec Rows.spongeSqueezeRow = true := by
  unfold joinedFacts
  rw [Try.mayEnter, Try.liftsFinal, Try.make]
  kernel_rfl

theorem proved : Rows.SpongeSqueezeSaid :=
  OpenClaim.holds_of_wide 15 Try.f15 rfl rfl rfl rfl rfl rfl rfl ⟨rfl, rfl, rfl, rfl, rfl⟩ rfl rfl rfl rfl rfl (by kernel_rfl) Try.func15 closed
    (of_decide_eq_true (by kernel_rfl)) (by unfold Func.isWrapper; first | (rw [if_pos (by decide +kernel)]; kernel_rfl) | (rw [if_neg (by decide +kernel)]; exact ⟨rfl, rfl⟩))
    (fun os started H enc _ => lifted os started H enc)
#print axioms proved
end spongeSqueeze
end Go.Proofs.Ytaklpdhhcnnclaa
