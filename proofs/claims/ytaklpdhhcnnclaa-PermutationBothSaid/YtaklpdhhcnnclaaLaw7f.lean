/- PermutationBoth: Permute and Inverse undo each other. -/
import Derived.Test.YtaklpdhhcnnclaaInverse
import Derived.Test.YtaklpdhhcnnclaaInvMath
namespace Go.Proofs.Ytaklpdhhcnnclaa
open Go.ChangeShapes Go.WideShapes Go.ChangeAt Go.RowKit
namespace permutationBoth

set_option maxHeartbeats 1000000 in
theorem walk (p : Int) (x : T3) (w : World) (_ : (Lit.int .u64 p).wf = true) (hx : W3 x) :
    Calls Try.prog 9 #[.int .u64 p, .agg #[.int .u64 x.a, .int .u64 x.b, .int .u64 x.c]] w fun e w' => e = .returned (.bool true) ∧ Below w.heap.size w w' := by
  go_enter Try.func9, Try.ntmps9
  go_wp2_with fail
  refine name_calls fun W hW => ?_
  have g0 : Blk W w.heap.size (A3 x) 26 := by rw [hW]; exact Blk.newAt rfl
  have hB : Below w.heap.size w W := by rw [hW]; exact (Below.refl _ _).alloc (Nat.le_refl _) _
  clear hW
  refine (awake7 _).mono ?_
  rintro e1 w1 ⟨rfl, hb1⟩
  replace hB := below2 hB hb1
  replace g0 := g0.mono hb1
  clear hb1
  obtain ⟨u, hu⟩ : ∃ u, u = permute p x := ⟨_, rfl⟩
  obtain ⟨m, hm⟩ : ∃ m, m = inverse p x := ⟨_, rfl⟩
  obtain ⟨r, hr⟩ : ∃ r, r = red3 p x := ⟨_, rfl⟩
  have um : inverse p u = r := by rw [hu, hr, inverse_permute]
  have mu : permute p m = r := by rw [hm, hr, permute_inverse p x hx]
  have ub : W3 u := by rw [hu]; exact permute_W3 p x hx
  have mb : W3 m := by rw [hm]; exact inverse_W3 p x hx
  have c0 : ∀ W : World, Calls Try.prog 30 #[.int .u64 p, .agg #[.int .u64 x.a, .int .u64 x.b, .int .u64 x.c]] W fun e w' => e = .returned (.agg #[.int .u64 r.a, .int .u64 r.b, .int .u64 r.c]) ∧ Below W.heap.size W w' := fun W => by rw [hr]; exact rRed3_any p x W hx
  have c1 : ∀ W : World, Calls Try.prog 33 #[.int .u64 p, .agg #[.int .u64 x.a, .int .u64 x.b, .int .u64 x.c]] W fun e w' => e = .returned (.agg #[.int .u64 u.a, .int .u64 u.b, .int .u64 u.c]) ∧ Below W.heap.size W w' := fun W => by rw [hu]; exact Permute_any p x W hx
  have c2 : ∀ W : World, Calls Try.prog 35 #[.int .u64 p, .agg #[.int .u64 u.a, .int .u64 u.b, .int .u64 u.c]] W fun e w' => e = .returned (.agg #[.int .u64 r.a, .int .u64 r.b, .int .u64 r.c]) ∧ Below W.heap.size W w' := fun W => by rw [← um]; exact Inverse_any p u W ub
  have c3 : ∀ W : World, Calls Try.prog 35 #[.int .u64 p, .agg #[.int .u64 x.a, .int .u64 x.b, .int .u64 x.c]] W fun e w' => e = .returned (.agg #[.int .u64 m.a, .int .u64 m.b, .int .u64 m.c]) ∧ Below W.heap.size W w' := fun W => by rw [hm]; exact Inverse_any p x W hx
  have c4 : ∀ W : World, Calls Try.prog 33 #[.int .u64 p, .agg #[.int .u64 m.a, .int .u64 m.b, .int .u64 m.c]] W fun e w' => e = .returned (.agg #[.int .u64 r.a, .int .u64 r.b, .int .u64 r.c]) ∧ Below W.heap.size W w' := fun W => by rw [← mu]; exact Permute_any p m W mb
  clear hu hm hr um mu ub mb hx
  have a0 := g0.cell (j := 0) (v := .int .u64 x.a) rfl; have a1 := g0.cell (j := 1) (v := .int .u64 x.b) rfl; have a2 := g0.cell (j := 2) (v := .int .u64 x.c) rfl
  go_wp2_with fail
  refine (c0 _).mono ?_
  rintro e2 w2 ⟨rfl, hb2⟩
  replace hB := below2 hB hb2
  replace g0 := g0.mono hb2
  clear hb2 c0 a0 a1 a2
  go_wp2_with fail
  refine name_world fun W hW => ?_
  have hn : w.heap.size ≤ w2.heap.size := hB.size
  have g2 : Blk W w2.heap.size (A3 r) 26 := by rw [hW]; exact Blk.newAt rfl
  replace hB : Below w.heap.size w W := by rw [hW]; exact hB.alloc hn _
  replace g0 : Blk W w.heap.size (A3 x) 26 := by rw [hW]; exact g0.alloc _
  clear hW hn
  have a0 := cell_later' (g0.cell (j := 0) (v := .int .u64 x.a) rfl); have a1 := cell_later' (g0.cell (j := 1) (v := .int .u64 x.b) rfl); have a2 := cell_later' (g0.cell (j := 2) (v := .int .u64 x.c) rfl)
  have b0 := cell_later' (g2.cell (j := 0) (v := .int .u64 r.a) rfl); have b1 := cell_later' (g2.cell (j := 1) (v := .int .u64 r.b) rfl); have b2 := cell_later' (g2.cell (j := 2) (v := .int .u64 r.c) rfl)
  have e2 := eq3_self r.a r.b r.c
  refine Rel.wp_region_later_tail 16 Try.mixed (by kernel_rfl) ?_
  simp only [List.take_succ_cons, List.take_zero, List.drop_succ_cons, List.drop_zero]
  repeat (first | go_big_quiet_step (first | (go_at_call_of 33 (T3.a x); exact Calls.later_of (c1 _)) | (go_at_call_of 35 (T3.a u); exact Calls.later_of (c2 _)) | (go_at_call_of 35 (T3.a x); exact Calls.later_of (c3 _)) | (go_at_call_of 33 (T3.a m); exact Calls.later_of (c4 _))) | quiet_step (first | (go_at_call_of 33 (T3.a x); exact Calls.later_of (c1 _)) | (go_at_call_of 35 (T3.a u); exact Calls.later_of (c2 _)) | (go_at_call_of 35 (T3.a x); exact Calls.later_of (c3 _)) | (go_at_call_of 33 (T3.a m); exact Calls.later_of (c4 _))))
  refine wpQuiet_nil ?_
  intro w3 hb3
  replace hb3 := below_of_later hb3
  go_wp2
  go_ret
  exact ⟨rfl, below2 hB hb3⟩

set_option maxRecDepth 100000 in
theorem lifted (os : Os) (started : os.Started) (H : Type) (enc : TypeId × Value → H) :
    ReturnsInHanded {} Try.checked os 9 .any (Rows.permutationBothSpec.pre6 enc Try.prog Try.f9 Rows.permutationBothRow.domain false) (Rows.permutationBothSpec.post enc Try.prog Try.f9 false true false false) := by
  refine returnsInHanded_of_change (C := Try.checked) own started (by kernel_rfl) Try.func9
    (ChangeSpec.witness6 (enc := enc) (C := Try.checked) false ⟨#[], #[.int .u64 0, .agg #[.int .u64 0, .int .u64 0, .int .u64 0]], []⟩ 8 (by kernel_rfl) (by kernel_rfl) (by kernel_rfl) (by kernel_rfl)) ?_
  intro W base args ds gs before hval0 hW hcnd _
  have hval : ∀ (j : Nat) t v, Try.f9.params[j]? = some t → args[j]? = some v → Value.okWide Try.prog W .any base t v := hval0
  have hW' := hW
  obtain ⟨p, q, hA0, hV, rfl, hfz, hnd⟩ := hW
  have hA : DataW.TrodAll enc Try.prog W 0 (fun _ => true) true Try.f9.params.toList args.toList ds p := hA0
  rw [Try.params9] at hA hval
  obtain ⟨v0, vs0, d0, ds0, p0, q0, hargs, rfl, rfl, h0, r0⟩ := trodAll_cons hA
  obtain ⟨v1, vs1, d1, ds1, p1, q1, rfl, rfl, rfl, h1, r1⟩ := trodAll_cons r0
  obtain ⟨rfl, rfl, rfl⟩ := trodAll_nil r1
  obtain rfl : args = #[v0, v1] := by cases args; simp_all
  obtain ⟨rfl, rfl⟩ := trodVars_none hV
  have k1 := h1
  obtain ⟨a0, rfl, rfl, rfl, w0⟩ := open_int Try.underlying22 (hval 0 22 v0 rfl rfl) h0
  obtain ⟨a1, b1, c1, rfl, rfl, rfl, wa1, wb1, wc1⟩ := open_arr3 Try.underlying26 Try.underlying22 (by kernel_rfl) (by kernel_rfl) (hval 1 26 v1 rfl rfl) h1
  clear hA0 hval0
  simp only [List.append_nil] at hW'
  refine (walk a0 ⟨a1, b1, c1⟩ W w0 ⟨wf_u64 wa1, wf_u64 wb1, wf_u64 wc1⟩).mono fun e W' ⟨he, hg⟩ => ?_
  subst he
  exact ⟨_, rfl, post_of_below (pv := []) hW' (fun _ _ _ => (trodAll_cons_mk (shut_bool Try.underlying4 _) trodAll_mk0))
    (fun sp _ hsp => by subst hsp; exact (trodAll_cons_mk (shut_int Try.underlying22 w0) (trodAll_cons_mk (Below.trod Try.laidOut (by kernel_rfl) (of_decide_eq_true (by kernel_rfl)) k1 hg (fun x hx => by cases hx)) trodAll_mk0))) (fun _ _ => rfl) (by simp) hg⟩

theorem closed : joinedFacts Try.prog 9 Try.f9 Rows.permutationBothSpec Rows.permutationBothRow = true := by
  unfold joinedFacts
  rw [Try.mayEnter, Try.liftsFinal, Try.make]
  kernel_rfl

theorem proved : Rows.PermutationBothSaid :=
  OpenClaim.holds_of_wide 9 Try.f9 rfl rfl rfl rfl rfl rfl rfl ⟨rfl, rfl, rfl, rfl, rfl⟩ rfl rfl rfl rfl rfl (by kernel_rfl) Try.func9 closed
    (of_decide_eq_true (by kernel_rfl)) (by unfold Func.isWrapper; first | (rw [if_pos (by decide +kernel)]; kernel_rfl) | (rw [if_neg (by decide +kernel)]; exact ⟨rfl, rfl⟩))
    (fun os started H enc _ => lifted os started H enc)
#print axioms proved
end permutationBoth
end Go.Proofs.Ytaklpdhhcnnclaa
