/- FrontierClimb: Climb returns the specified root for every leaf, position and path. -/
import Derived.Test.YthkdaoomnfgooaaAwake36
import Derived.Test.YthkdaoomnfgooaaOpen
namespace Go.Proofs.Ythkdaoomnfgooaa
open Go.ChangeShapes Go.WideShapes Go.ChangeAt Go.RowKit
namespace frontierClimb

set_option maxRecDepth 10000 in
set_option maxHeartbeats 4000000 in
theorem walk (x p : Int) (ad : Option Addr) (c : Nat) (xs : List Int) (w : World) (hx : (Lit.int .u64 x).wf = true) (hp : (Lit.int .i64 p).wf = true) (S : SlP w .u64 ad c xs) :
    Calls Try.prog 10 #[.int .u64 x, .int .i64 p, .slice ad xs.length c] w fun e w' => e = .returned (.bool true) ∧ Below w.heap.size w w' := by
  have hxb := wf_u64 hx
  obtain ⟨_, p1⟩ := wf_int hp
  have hs := S.sl
  have hw := wfs_u64 S.wf
  clear S hx hp
  by_cases h20 : xs.length ≤ 20
  · have c1 := fun (ad : Option Addr) (c : Nat) (W : World) hs => Climb_any x p ad c xs W hxb p1 hs hw (by omega)
    have c2 := fun (W : World) hs => rClimb_any x p ad c xs W hxb p1 hs hw (by omega)
    generalize fclimb x p xs = R at *
    have hRR : (R == R) = true := by simp
    clear p1 hxb
    go_enter Try.func10, Try.ntmps10
    go_wp2_with fail
    refine (awake36 _).mono ?_
    rintro ew1 w1 ⟨rfl, hb1⟩
    go_wp2_with (at_builtin; refine wpList_app _ rfl _ _ 22 rfl w.heap.size 30 .u64 8 Try.underlying22 Try.infoU64 (by decide) _ [] xs c ad rfl rfl (Own.empty hb1.size) ((hs.mono hb1).alloc _) (by simp; omega) (by have := hb1.size; simp; omega) ?_; intro v' w' hown hg; refine Hold.mk ?_)
    refine Hold.go ?_
    have hb2 : Below w.heap.size w w' := hg.below (hb1.alloc hb1.size _) (Own.empty (base := w.heap.size) (k := .u64) hb1.size) (Nat.le_refl _) (by have := hb1.size; simp; omega)
    rw [List.nil_append] at hown
    clear hg
    obtain ⟨a2, c2', rfl, s2, _, _⟩ := Own.sl hown
    clear hown
    go_wp2_with fail
    refine (c1 _ _ _ s2).mono ?_
    rintro e w3 ⟨rfl, hb3⟩
    replace hb3 := below2 hb2 hb3
    clear c1 s2
    go_wp2_with fail
    refine (c2 _ (hs.mono hb3)).mono ?_
    rintro e w4 ⟨rfl, hb4⟩
    clear c2
    go_wp2
    go_ret
    exact ⟨rfl, below2 hb3 hb4⟩
  · have h21 : 20 < xs.length := by omega
    clear p1 hxb
    go_enter Try.func10, Try.ntmps10
    go_wp2_with fail
    refine (awake36 _).mono ?_
    rintro ew1 w1 ⟨rfl, hb1⟩
    go_wp2_with fail
    refine (awake36 _).mono ?_
    rintro ew2 w2 ⟨rfl, hb2⟩
    go_wp2
    go_ret
    exact ⟨rfl, below2 hb1 hb2⟩

set_option maxRecDepth 100000 in
theorem lifted (os : Os) (started : os.Started) (H : Type) (enc : TypeId × Value → H) :
    ReturnsInHanded {} Try.checked os 10 .any (Rows.frontierClimbSpec.pre6 enc Try.prog Try.f10 Rows.frontierClimbRow.domain false) (Rows.frontierClimbSpec.post enc Try.prog Try.f10 false true false false) := by
  refine returnsInHanded_of_change (C := Try.checked) own started (by kernel_rfl) Try.func10
    (ChangeSpec.witness6 (enc := enc) (C := Try.checked) false ⟨#[], #[.int .u64 0, .int .i64 0, .slice none 0 0], []⟩ 8 (by kernel_rfl) (by kernel_rfl) (by kernel_rfl) (by kernel_rfl)) ?_
  intro W base args ds gs before hval0 hW hcnd _
  have hval : ∀ (j : Nat) t v, Try.f10.params[j]? = some t → args[j]? = some v → Value.okWide Try.prog W .any base t v := hval0
  have hW' := hW
  obtain ⟨p, q, hA0, hV, rfl, hfz, hnd⟩ := hW
  have hA : DataW.TrodAll enc Try.prog W 0 (fun _ => true) true Try.f10.params.toList args.toList ds p := hA0
  rw [Try.params10] at hA hval
  obtain ⟨v0, vs0, d0, ds0, p0, q0, hargs, rfl, rfl, h0, r0⟩ := trodAll_cons hA
  obtain ⟨v1, vs1, d1, ds1, p1, q1, rfl, rfl, rfl, h1, r1⟩ := trodAll_cons r0
  obtain ⟨v2, vs2, d2, ds2, p2, q2, rfl, rfl, rfl, h2, r2⟩ := trodAll_cons r1
  obtain ⟨rfl, rfl, rfl⟩ := trodAll_nil r2
  obtain rfl : args = #[v0, v1, v2] := by cases args; simp_all
  obtain ⟨rfl, rfl⟩ := trodVars_none hV
  have k2 := h2
  obtain ⟨a0, rfl, rfl, rfl, w0⟩ := open_int Try.underlying30 (hval 0 30 v0 rfl rfl) h0
  obtain ⟨a1, rfl, rfl, rfl, w1⟩ := open_int Try.underlying3 (hval 1 3 v1 rfl rfl) h1
  obtain ⟨ad2, cap2, xs2, rfl, S2⟩ := open_slice Try.underlying22 Try.underlying30 (by kernel_rfl) h2 (hval 2 22 v2 rfl rfl) (fun x hx => hW'.lt x (by simp [hx]))
  clear hA0 hval0
  simp only [List.append_nil] at hW'
  refine (walk a0 a1 ad2 cap2 xs2 W w0 w1 S2).mono fun e W' ⟨he, hg⟩ => ?_
  subst he
  exact ⟨_, rfl, post_of_below (pv := []) hW' (fun _ _ _ => (trodAll_cons_mk (shut_bool Try.underlying4 _) trodAll_mk0))
    (fun sp _ hsp => by subst hsp; exact (trodAll_cons_mk (shut_int Try.underlying30 w0) (trodAll_cons_mk (shut_int Try.underlying3 w1) (trodAll_cons_mk (Below.trod Try.laidOut (by kernel_rfl) (of_decide_eq_true (by kernel_rfl)) k2 hg (fun x hx => hW'.lt x (by simp [hx]))) trodAll_mk0)))) (fun _ _ => rfl) (by simp) hg⟩

theorem closed : joinedFacts Try.prog 10 Try.f10 Rows.frontierClimbSpec Rows.frontierClimbRow = true := by
  unfold joinedFacts
  rw [Try.mayEnter, Try.liftsFinal, Try.make]
  kernel_rfl

theorem proved : Rows.FrontierClimbSaid :=
  OpenClaim.holds_of_wide 10 Try.f10 rfl rfl rfl rfl rfl rfl rfl ⟨rfl, rfl, rfl, rfl, rfl⟩ rfl rfl rfl rfl rfl (by kernel_rfl) Try.func10 closed
    (of_decide_eq_true (by kernel_rfl)) (by unfold Func.isWrapper; first | (rw [if_pos (by decide +kernel)]; kernel_rfl) | (rw [if_neg (by decide +kernel)]; exact ⟨rfl, rfl⟩))
    (fun os started H enc _ => lifted os started H enc)
#print axioms proved
end frontierClimb
end Go.Proofs.Ythkdaoomnfgooaa
