/- PermutationInverse: Inverse returns the specified state. -/
import Derived.Test.YtaklpdhhcnnclaaInverseR
namespace Go.Proofs.Ytaklpdhhcnnclaa
open Go.ChangeShapes Go.WideShapes Go.ChangeAt Go.RowKit
namespace permutationInverse

set_option maxHeartbeats 1000000 in
theorem walk (p : Int) (x : T3) (w : World) (_ : (Lit.int .u64 p).wf = true) (hx : W3 x) :
    Calls Try.prog 8 #[.int .u64 p, .agg #[.int .u64 x.a, .int .u64 x.b, .int .u64 x.c]] w fun e w' => e = .returned (.bool true) ∧ Below w.heap.size w w' := by
  go_enter Try.func8, Try.ntmps8
  go_wp2_with fail
  refine name_world fun W hW => ?_
  have g0 : Blk W w.heap.size (A3 x) 26 := by rw [hW]; exact Blk.newAt rfl
  have hB : Below w.heap.size w W := by rw [hW]; exact (Below.refl _ _).alloc (Nat.le_refl _) _
  clear hW
  obtain ⟨u, hu⟩ : ∃ u, u = inverse p x := ⟨_, rfl⟩
  have c1 : ∀ W : World, Calls Try.prog 35 #[.int .u64 p, .agg #[.int .u64 x.a, .int .u64 x.b, .int .u64 x.c]] W fun e w' => e = .returned (.agg #[.int .u64 u.a, .int .u64 u.b, .int .u64 u.c]) ∧ Below W.heap.size W w' := fun W => by rw [hu]; exact Inverse_any p x W hx
  have c2 : ∀ W : World, Calls Try.prog 36 #[.int .u64 p, .agg #[.int .u64 x.a, .int .u64 x.b, .int .u64 x.c]] W fun e w' => e = .returned (.agg #[.int .u64 u.a, .int .u64 u.b, .int .u64 u.c]) ∧ Below W.heap.size W w' := fun W => by rw [hu]; exact rInverse_any p x W hx
  clear hu hx
  have a0 := cell_later' (g0.cell (j := 0) (v := .int .u64 x.a) rfl); have a1 := cell_later' (g0.cell (j := 1) (v := .int .u64 x.b) rfl); have a2 := cell_later' (g0.cell (j := 2) (v := .int .u64 x.c) rfl)
  have e1 := eq3_self u.a u.b u.c
  refine Rel.wp_region_later_tail 10 Try.mixed (by kernel_rfl) ?_
  simp only [List.take_succ_cons, List.take_zero, List.drop_succ_cons, List.drop_zero]
  repeat (first | go_big_quiet_step (first | (go_at_call 24; exact Calls.later_of (awake7 _)) | (go_at_call 35; exact Calls.later_of (c1 _)) | (go_at_call 36; exact Calls.later_of (c2 _))) | quiet_step (first | (go_at_call 24; exact Calls.later_of (awake7 _)) | (go_at_call 35; exact Calls.later_of (c1 _)) | (go_at_call 36; exact Calls.later_of (c2 _))))
  refine wpQuiet_nil ?_
  intro w3 hb3
  replace hb3 := below_of_later hb3
  go_wp2
  go_ret
  exact ⟨rfl, below2 hB hb3⟩

set_option maxRecDepth 100000 in
theorem lifted (os : Os) (started : os.Started) (H : Type) (enc : TypeId × Value → H) :
    ReturnsInHanded {} Try.checked os 8 .any (Rows.permutationInverseSpec.pre6 enc Try.prog Try.f8 Rows.permutationInverseRow.domain false) (Rows.permutationInverseSpec.post enc Try.prog Try.f8 false true false false) := by
  refine returnsInHanded_of_change (C := Try.checked) own started (by kernel_rfl) Try.func8
    (ChangeSpec.witness6 (enc := enc) (C := Try.checked) false ⟨#[], #[.int .u64 0, .agg #[.int .u64 0, .int .u64 0, .int .u64 0]], []⟩ 8 (by kernel_rfl) (by kernel_rfl) (by kernel_rfl) (by kernel_rfl)) ?_
  intro W base args ds gs before hval0 hW hcnd _
  have hval : ∀ (j : Nat) t v, Try.f8.params[j]? = some t → args[j]? = some v → Value.okWide Try.prog W .any base t v := hval0
  have hW' := hW
  obtain ⟨p, q, hA0, hV, rfl, hfz, hnd⟩ := hW
  have hA : DataW.TrodAll enc Try.prog W 0 (fun _ => true) true Try.f8.params.toList args.toList ds p := hA0
  rw [Try.params8] at hA hval
  obtain ⟨v0, vs0, d0, ds0, p0, q0, hargs, rfl, rfl, h0, r0⟩ := trodAll_cons hA
  obtain ⟨v1, vs1, d1, ds1, p1, q1, rfl, rfl, rfl, h1, r1⟩ := trodAll_cons r0
  obtain ⟨rfl, rfl, rfl⟩ := trodAll_nil r1
  obtain rfl : args = #[v0, v1] := by cases args; simp_all
  obtain ⟨rfl, rfl⟩ := trodVars_none hV
  have k1 := h1
  obtain ⟨a0, rfl, rfl, rfl, w0⟩ := open_int Try.underlying22 (hval 0 22 v0 rfl rfl) h0
  obtain ⟨a1, b1, c1, rfl, rfl, rfl, wa1, wb1, wc1⟩ := open_arr3 Try.underlying26 Try.underlying22 (by kernel_rfl) (by kernel_rfl) (hval 1 26 v1 rfl rfl) h1
  clear hA0 hval0
  simp only [List.append_nil] at hW'
  refine (walk a0 ⟨a1, b1, c1⟩ W w0 ⟨wf_u64 wa1, wf_u64 wb1, wf_u64 wc1⟩).mono fun e W' ⟨he, hg⟩ => ?_
  subst he
  exact ⟨_, rfl, post_of_below (pv := []) hW' (fun _ _ _ => (trodAll_cons_mk (shut_bool Try.underlying4 _) trodAll_mk0))
    (fun sp _ hsp => by subst hsp; exact (trodAll_cons_mk (shut_int Try.underlying22 w0) (trodAll_cons_mk (Below.trod Try.laidOut (by kernel_rfl) (of_decide_eq_true (by kernel_rfl)) k1 hg (fun x hx => by cases hx)) trodAll_mk0))) (fun _ _ => rfl) (by simp) hg⟩

theorem closed : joinedFacts Try.prog 8 Try.f8 Rows.permutationInverseSpec Rows.permutationInverseRow = true := by
  unfold joinedFacts
  rw [Try.mayEnter, Try.liftsFinal, Try.make]
  kernel_rfl

theorem proved : Rows.PermutationInverseSaid :=
  OpenClaim.holds_of_wide 8 Try.f8 rfl rfl rfl rfl rfl rfl rfl ⟨rfl, rfl, rfl, rfl, rfl⟩ rfl rfl rfl rfl rfl (by kernel_rfl) Try.func8 closed
    (of_decide_eq_true (by kernel_rfl)) (by unfold Func.isWrapper; first | (rw [if_pos (by decide +kernel)]; kernel_rfl) | (rw [if_neg (by decide +kernel)]; exact ⟨rfl, rfl⟩))
    (fun os started H enc _ => lifted os started H enc)
#print axioms proved
end permutationInverse
end Go.Proofs.Ytaklpdhhcnnclaa
