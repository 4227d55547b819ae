/- AssignValid: Valid accepts exactly the valid circuits. -/
import Derived.Test.YtlflkddgdbdebaaCircB
namespace Go.Proofs.Ytlflkddgdbdebaa
open Go.ChangeShapes Go.WideShapes Go.ChangeAt Go.RowKit
namespace assignValid

set_option maxRecDepth 10000 in
set_option maxHeartbeats 4000000 in
theorem walk (p pub vars : Int) (ra : Option Addr) (rc : Nat) (R : List Rw) (sec : Int) (ha : Option Addr) (hc : Nat) (H : List Hn) (w : World)
    (hwf : (Lit.int .u64 p).wf = true ∧ (Lit.int .i64 pub).wf = true ∧ (Lit.int .i64 vars).wf = true ∧ (Lit.int .i64 sec).wf = true) (hR : RowsP w ra rc R) (hH : HintsP w ha hc H) :
    Calls Try.prog 3 #[.agg #[.int .u64 p, .int .i64 pub, .int .i64 vars, .slice ra R.length rc, .int .i64 sec, .slice ha H.length hc]] w fun e w' => e = .returned (.bool true) ∧ Below w.heap.size w w' := by
  have cS := fun W h1 h2 => short0_any p pub vars ra R rc sec ha H hc W h1 h2
  have cA := fun W h1 h2 => aCValid_any p pub vars ra R rc sec ha H hc W h1 h2 hwf.2.2.2
  have cR := fun W h1 h2 => rCValid_any p pub vars ra R rc sec ha H hc W h1 h2 hwf.2.2.2
  generalize cirOk p pub vars R sec H = C at *
  generalize smC R H = S at *
  have hCC : (C == C) = true := by simp
  clear hwf
  go_enter Try.func3, Try.ntmps3
  go_wp2_with fail
  refine name_calls fun W hN => ?_
  have g0 : Blk W w.heap.size #[.int .u64 p, .int .i64 pub, .int .i64 vars, .slice ra R.length rc, .int .i64 sec, .slice ha H.length hc] 28 := by rw [hN]; exact Blk.newAt rfl
  have hB : Below w.heap.size w W := by rw [hN]; exact (Below.refl _ _).alloc (Nat.le_refl _) _
  clear hN
  refine (awake22 W).mono ?_
  rintro e w1 ⟨rfl, hb1⟩
  replace g0 := g0.mono hb1
  replace hB := below2 hB hb1
  clear hb1
  have c1 := fun P => cS (later w1 P) ((hR.mono hB).mono (below_later _ _)) ((hH.mono hB).mono (below_later _ _))
  have c2 := fun P => cA (later w1 P) ((hR.mono hB).mono (below_later _ _)) ((hH.mono hB).mono (below_later _ _))
  have c3 := fun P => cR (later w1 P) ((hR.mono hB).mono (below_later _ _)) ((hH.mono hB).mono (below_later _ _))
  clear cS cA cR hR hH
  have k0 := cell_later' (g0.cell (j := 0) (v := .int .u64 p) rfl); have k1 := cell_later' (g0.cell (j := 1) (v := .int .i64 pub) rfl); have k2 := cell_later' (g0.cell (j := 2) (v := .int .i64 vars) rfl); have k3 := cell_later' (g0.cell (j := 3) (v := .slice ra R.length rc) rfl); have k4 := cell_later' (g0.cell (j := 4) (v := .int .i64 sec) rfl); have k5 := cell_later' (g0.cell (j := 5) (v := .slice ha H.length hc) rfl)
  cases S with
  | false =>
    go_wp2_with fail
    refine wp_region_later Try.mixed (by kernel_rfl) ?_
    repeat (first | go_big_quiet_step (first | (go_at_call 11; exact Calls.later_of (c1 _)) | (go_at_call 12; exact Calls.later_of (c2 _)) | (go_at_call 13; exact Calls.later_of (c3 _))) | quiet_step (first | (go_at_call 11; exact Calls.later_of (c1 _)) | (go_at_call 12; exact Calls.later_of (c2 _)) | (go_at_call 13; exact Calls.later_of (c3 _))))
    refine wpQuiet_nil ?_
    intro w3 hb3
    replace hb3 := below_of_later hb3
    go_wp2
    go_ret
    exact ⟨rfl, below2 hB hb3⟩
  | true =>
    go_wp2_with fail
    refine wp_region_later Try.mixed (by kernel_rfl) ?_
    repeat (first | go_big_quiet_step (first | (go_at_call 11; exact Calls.later_of (c1 _)) | (go_at_call 12; exact Calls.later_of (c2 _)) | (go_at_call 13; exact Calls.later_of (c3 _))) | quiet_step (first | (go_at_call 11; exact Calls.later_of (c1 _)) | (go_at_call 12; exact Calls.later_of (c2 _)) | (go_at_call 13; exact Calls.later_of (c3 _))))
    refine wpQuiet_nil ?_
    intro w3 hb3
    replace hb3 := below_of_later hb3
    go_wp2
    go_ret
    exact ⟨rfl, below2 hB hb3⟩

set_option maxRecDepth 100000 in
theorem lifted (os : Os) (started : os.Started) (H : Type) (enc : TypeId × Value → H) :
    ReturnsInHanded {} Try.checked os 3 .any (Rows.assignValidSpec.pre6 enc Try.prog Try.f3 Rows.assignValidRow.domain false) (Rows.assignValidSpec.post enc Try.prog Try.f3 false true false false) := by
  refine returnsInHanded_of_change (C := Try.checked) own started (by kernel_rfl) Try.func3
    (ChangeSpec.witness6 (enc := enc) (C := Try.checked) false ⟨#[], #[.agg #[.int .u64 0, .int .i64 0, .int .i64 0, .slice none 0 0, .int .i64 0, .slice none 0 0]], []⟩ 8 (by kernel_rfl) (by kernel_rfl) (by kernel_rfl) (by kernel_rfl)) ?_
  intro W base args ds gs before hval0 hW hcnd _
  have hval : ∀ (j : Nat) t v, Try.f3.params[j]? = some t → args[j]? = some v → Value.okWide Try.prog W .any base t v := hval0
  have hW' := hW
  obtain ⟨p, q, hA0, hV, rfl, hfz, hnd⟩ := hW
  have hA : DataW.TrodAll enc Try.prog W 0 (fun _ => true) true Try.f3.params.toList args.toList ds p := hA0
  rw [Try.params3] at hA hval
  obtain ⟨v0, vs0, d0, ds0, p0, q0, hargs, rfl, rfl, h0, r0⟩ := trodAll_cons hA
  obtain ⟨rfl, rfl, rfl⟩ := trodAll_nil r0
  obtain rfl : args = #[v0] := by cases args; simp_all
  obtain ⟨rfl, rfl⟩ := trodVars_none hV
  have k0 := h0
  obtain ⟨p0, pub0, vars0, ra0, rc0, R0, sec0, ha0, hc0, H0, rfl, wc0, hR0, hH0⟩ := open_circ h0 (hval 0 28 v0 rfl rfl)
  clear hA0 hval0
  simp only [List.append_nil] at hW'
  refine (walk p0 pub0 vars0 ra0 rc0 R0 sec0 ha0 hc0 H0 W wc0 hR0 hH0).mono fun e W' ⟨he, hg⟩ => ?_
  subst he
  exact ⟨_, rfl, post_of_below (pv := []) hW' (fun _ _ _ => (trodAll_cons_mk (shut_bool Try.underlying4 _) trodAll_mk0))
    (fun sp _ hsp => by subst hsp; exact (trodAll_cons_mk (Below.trod Try.laidOut (by kernel_rfl) (of_decide_eq_true (by kernel_rfl)) k0 hg (fun x hx => hW'.lt x (by simp [hx]))) trodAll_mk0)) (fun _ _ => rfl) (by simp) hg⟩

theorem closed : joinedFacts Try.prog 3 Try.f3 Rows.assignValidSpec Rows.assignValidRow = true := by
  unfold joinedFacts
  rw [Try.mayEnter, Try.liftsFinal, Try.make]
  kernel_rfl

theorem proved : Rows.AssignValidSaid :=
  OpenClaim.holds_of_wide 3 Try.f3 rfl rfl rfl rfl rfl rfl rfl ⟨rfl, rfl, rfl, rfl, rfl⟩ rfl rfl rfl rfl rfl (by kernel_rfl) Try.func3 closed
    (of_decide_eq_true (by kernel_rfl)) (by unfold Func.isWrapper; first | (rw [if_pos (by decide +kernel)]; kernel_rfl) | (rw [if_neg (by decide +kernel)]; exact ⟨rfl, rfl⟩))
    (fun os started H enc _ => lifted os started H enc)
#print axioms proved
end assignValid
end Go.Proofs.Ytlflkddgdbdebaa
