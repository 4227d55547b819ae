/- FrontierNew: New and Empty return the specified results for every depth. -/
import Derived.Test.YthkdaoomnfgooaaAwake36
import Derived.Test.YthkdaoomnfgooaaOpen
namespace Go.Proofs.Ythkdaoomnfgooaa
open Go.ChangeShapes Go.WideShapes Go.ChangeAt Go.RowKit
namespace frontierNew

set_option maxRecDepth 10000 in
set_option maxHeartbeats 4000000 in
theorem walk (d : Int) (w : World) (_ : (Lit.int .i64 d).wf = true) :
    Calls Try.prog 4 #[.int .i64 d] w fun e w' => e = .returned (.bool true) ∧ Below w.heap.size w w' := by
  have cN1 := fun W : World => New_any d W
  have cN2 := fun W : World => rNew_any d W
  have cE1 := fun W : World => Empty_any d W
  have cE2 := fun W : World => rEmpty_any d W
  have hL : (newL d).length ≤ 13 := by
    unfold newL newOk
    split
    · rename_i h
      have := of_decide_eq_true h
      simp
      omega
    · simp
  generalize newD d = D at *
  generalize newL d = L at *
  generalize empI d = R at *
  have hRR : (R == R) = true := by simp
  go_enter Try.func4, Try.ntmps4
  go_wp2_with fail
  refine (awake36 _).mono ?_
  rintro ew1 w1 ⟨rfl, hb1⟩
  go_wp2_with fail
  refine (cN1 _).mono ?_
  rintro e w2 ⟨v, rfl, o2, hb2⟩
  obtain ⟨a2, c2, rfl, s2, _, _⟩ := Own.sl o2
  replace hb2 := below2 hb1 hb2
  clear cN1 o2 hb1
  go_wp2_with fail
  refine (back36_any D 0 a2 L.length c2 _).mono ?_
  rintro ew3 w3 ⟨rfl, hb3⟩
  replace s2 := s2.mono hb3
  replace hb3 := below2 hb2 hb3
  go_wp2_with fail
  refine (cN2 _).mono ?_
  rintro e w4 ⟨v, rfl, o4, hb4⟩
  obtain ⟨a4, c4, rfl, s4, _, _⟩ := Own.sl o4
  replace s2 := s2.mono hb4
  replace hb4 := below2 hb3 hb4
  clear cN2 o4
  go_wp2_with fail
  refine (Same36_any D 0 D 0 a2 a4 c2 c4 L L w4 s2 s4 (by omega)).mono ?_
  rintro e w5 ⟨rfl, hb5⟩
  have hd : sameB D 0 D 0 L L = true := by unfold sameB; simp
  rw [hd]
  replace hb5 := below2 hb4 hb5
  go_wp2_with fail
  refine (cE1 _).mono ?_
  rintro ew6 w6 ⟨rfl, hb6⟩
  clear cE1
  go_wp2_with fail
  refine (cE2 _).mono ?_
  rintro ew7 w7 ⟨rfl, hb7⟩
  clear cE2
  go_wp2
  go_ret
  exact ⟨rfl, below2 (below2 hb5 hb6) hb7⟩

set_option maxRecDepth 100000 in
theorem lifted (os : Os) (started : os.Started) (H : Type) (enc : TypeId × Value → H) :
    ReturnsInHanded {} Try.checked os 4 .any (Rows.frontierNewSpec.pre6 enc Try.prog Try.f4 Rows.frontierNewRow.domain false) (Rows.frontierNewSpec.post enc Try.prog Try.f4 false true false false) := by
  refine returnsInHanded_of_change (C := Try.checked) own started (by kernel_rfl) Try.func4
    (ChangeSpec.witness6 (enc := enc) (C := Try.checked) false ⟨#[], #[.int .i64 0], []⟩ 8 (by kernel_rfl) (by kernel_rfl) (by kernel_rfl) (by kernel_rfl)) ?_
  intro W base args ds gs before hval0 hW hcnd _
  have hval : ∀ (j : Nat) t v, Try.f4.params[j]? = some t → args[j]? = some v → Value.okWide Try.prog W .any base t v := hval0
  have hW' := hW
  obtain ⟨p, q, hA0, hV, rfl, hfz, hnd⟩ := hW
  have hA : DataW.TrodAll enc Try.prog W 0 (fun _ => true) true Try.f4.params.toList args.toList ds p := hA0
  rw [Try.params4] at hA hval
  obtain ⟨v0, vs0, d0, ds0, p0, q0, hargs, rfl, rfl, h0, r0⟩ := trodAll_cons hA
  obtain ⟨rfl, rfl, rfl⟩ := trodAll_nil r0
  obtain rfl : args = #[v0] := by cases args; simp_all
  obtain ⟨rfl, rfl⟩ := trodVars_none hV
  obtain ⟨a0, rfl, rfl, rfl, w0⟩ := open_int Try.underlying3 (hval 0 3 v0 rfl rfl) h0
  clear hA0 hval0
  simp only [List.append_nil] at hW'
  refine (walk a0 W w0).mono fun e W' ⟨he, hg⟩ => ?_
  subst he
  exact ⟨_, rfl, post_of_below (pv := []) hW' (fun _ _ _ => (trodAll_cons_mk (shut_bool Try.underlying4 _) trodAll_mk0))
    (fun sp _ hsp => by subst hsp; exact (trodAll_cons_mk (shut_int Try.underlying3 w0) trodAll_mk0)) (fun _ _ => rfl) (by simp) hg⟩

theorem closed : joinedFacts Try.prog 4 Try.f4 Rows.frontierNewSpec Rows.frontierNewRow = true := by
  unfold joinedFacts
  rw [Try.mayEnter, Try.liftsFinal, Try.make]
  kernel_rfl

theorem proved : Rows.FrontierNewSaid :=
  OpenClaim.holds_of_wide 4 Try.f4 rfl rfl rfl rfl rfl rfl rfl ⟨rfl, rfl, rfl, rfl, rfl⟩ rfl rfl rfl rfl rfl (by kernel_rfl) Try.func4 closed
    (of_decide_eq_true (by kernel_rfl)) (by unfold Func.isWrapper; first | (rw [if_pos (by decide +kernel)]; kernel_rfl) | (rw [if_neg (by decide +kernel)]; exact ⟨rfl, rfl⟩))
    (fun os started H enc _ => lifted os started H enc)
#print axioms proved
end frontierNew
end Go.Proofs.Ythkdaoomnfgooaa
