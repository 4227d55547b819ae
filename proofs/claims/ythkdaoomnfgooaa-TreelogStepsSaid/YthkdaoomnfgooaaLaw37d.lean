/- TreelogSteps: The same holds after each operation. -/
import Derived.Test.YthkdaoomnfgooaaTreeZ
namespace Go.Proofs.Ythkdaoomnfgooaa
open Go.ChangeShapes Go.WideShapes Go.ChangeAt Go.RowKit
namespace treelogSteps

theorem OpS.take {w : World} {ad : Option Addr} {ops : List (Bool × Int)} (h : OpS w ad ops) (n : Nat) : OpS w ad (ops.take n) := fun h0 => by
  rw [List.length_take] at h0
  obtain ⟨b, off, e, hl, hc⟩ := h (by omega)
  refine ⟨b, off, e, hl, fun i hi => ?_⟩
  rw [List.length_take] at hi
  have hg : (ops.take n).getD i (false, 0) = ops.getD i (false, 0) := by
    simp only [List.getD_eq_getElem?_getD]
    rw [List.getElem?_take_of_lt (by omega)]
  rw [hg]
  exact hc i (by omega)

set_option maxRecDepth 10000 in
set_option maxHeartbeats 4000000 in
theorem walk (d : Int) (ad : Option Addr) (cap : Nat) (ops : List (Bool × Int)) (w : World) (_ : (Lit.int .i64 d).wf = true) (S : OpP w ad cap ops) :
    Calls Try.prog 13 #[.int .i64 d, .slice ad ops.length cap] w fun e w' => e = .returned (.bool true) ∧ Below w.heap.size w w' := by
  by_cases h12 : 12 < ops.length
  · have h12' : (12 : Int) < ops.length := by omega
    clear S
    go_enter Try.func13, Try.ntmps13
    go_wp2_with fail
    refine (awake37 _).mono ?_
    rintro ew1 w1 ⟨rfl, hb1⟩
    go_wp2_with fail
    refine (awake37 _).mono ?_
    rintro ew2 w2 ⟨rfl, hb2⟩
    go_wp2
    go_ret
    exact ⟨rfl, below2 hb1 hb2⟩
  have h12' : (ops.length : Int) ≤ 12 := by omega
  by_cases h6 : 6 < d
  · clear S
    go_enter Try.func13, Try.ntmps13
    go_wp2_with fail
    refine (awake37 _).mono ?_
    rintro ew1 w1 ⟨rfl, hb1⟩
    go_wp2_with fail
    refine (awake37 _).mono ?_
    rintro ew2 w2 ⟨rfl, hb2⟩
    go_wp2
    go_ret
    exact ⟨rfl, below2 hb1 hb2⟩
  have h6' : d ≤ 6 := by omega
  have hs := S.s
  have hsw := S.w
  have hle := S.le
  clear S
  by_cases hd : 1 ≤ d
  · obtain ⟨n, rfl⟩ := Int.eq_ofNat_of_zero_le (show 0 ≤ d by omega)
    have h1 : 1 ≤ n := by omega
    have h2 : n ≤ 12 := by omega
    go_enter Try.func13, Try.ntmps13
    go_wp2_with fail
    refine (awake37 _).mono ?_
    rintro ew1 w1 ⟨rfl, hb1⟩
    go_wp2_with fail
    go_loopw [23] (fun t23 wr => ∃ i : Nat, i ≤ ops.length ∧ t23 = .int .i64 i ∧ Below w.heap.size w wr) (fun t23 _ => ops.length - (intOf t23).toNat)
    case atStart => exact ⟨0, by omega, rfl, hb1⟩
    case round =>
      clear hb1
      obtain ⟨i, hi, rfl, hB⟩ := hrel
      by_cases hlt : i < ops.length
      · have hlt' : (i : Int) < ops.length := by omega
        obtain ⟨j, hj⟩ : ∃ j, j = i + 1 := ⟨_, rfl⟩
        have hij : (i : Int) + 1 = (j : Int) := by omega
        have hwj : IntKind.i64.wrap (j : Int) = j := by rw [IntKind.wrap_i64]; omega
        have hjc : j ≤ cap := by omega
        have htl : (ops.take j).length = j := by rw [List.length_take]; omega
        have hwt : OpsW (ops.take j) := fun o ho => hsw o (List.mem_of_mem_take ho)
        have cP := fun (W : World) hs => play_any n ad cap (ops.take j) W hs hwt h1 h2 (by omega)
        rw [htl] at cP
        have hok := play_ok (d := n) hwt
        generalize playL n (ops.take j) = m at *
        replace hj := hide hj
        clear htl
        go_wp2_with fail
        refine (cP wr (OpS.take (hs.mono hB) j)).mono ?_
        rintro e w2 ⟨bL, bV, vs, v, rfl, I⟩
        obtain ⟨a, c, rfl, sm, _, _⟩ := Own.sl I.O
        replace hB := below2 hB I.B
        have cS := same37_any w2 _ bL bV n vs m a c I.T sm hok h1 h2
        clear cP I sm hok
        go_wp2_with fail
        refine cS.mono ?_
        rintro e w3 ⟨rfl, hb3⟩
        replace hB := below2 hB hb3
        clear cS hb3
        go_wp2
        go_roundw
        case rel => exact ⟨i + 1, by omega, by go_num, hB⟩
        case measure => simp [intOf]; omega
      · go_wp2
        go_ret
        exact ⟨rfl, hB⟩
  · go_enter Try.func13, Try.ntmps13
    go_wp2_with fail
    refine (awake37 _).mono ?_
    rintro ew1 w1 ⟨rfl, hb1⟩
    go_wp2_with fail
    go_loopw [23] (fun t23 wr => ∃ i : Nat, i ≤ ops.length ∧ t23 = .int .i64 i ∧ Below w.heap.size w wr) (fun t23 _ => ops.length - (intOf t23).toNat)
    case atStart => exact ⟨0, by omega, rfl, hb1⟩
    case round =>
      clear hb1
      obtain ⟨i, hi, rfl, hB⟩ := hrel
      by_cases hlt : i < ops.length
      · have hlt' : (i : Int) < ops.length := by omega
        obtain ⟨j, hj⟩ : ∃ j, j = i + 1 := ⟨_, rfl⟩
        have hij : (i : Int) + 1 = (j : Int) := by omega
        have hwj : IntKind.i64.wrap (j : Int) = j := by rw [IntKind.wrap_i64]; omega
        have hjc : j ≤ cap := by omega
        have cP := fun W : World => play_bad d ad j cap W (by omega)
        replace hj := hide hj
        go_wp2_with fail
        refine (cP wr).mono ?_
        rintro e w2 ⟨rfl, hb2⟩
        replace hB := below2 hB hb2
        clear cP hb2
        go_wp2
        go_roundw
        case rel => exact ⟨i + 1, by omega, by go_num, hB⟩
        case measure => simp [intOf]; omega
      · go_wp2
        go_ret
        exact ⟨rfl, hB⟩

set_option maxRecDepth 100000 in
theorem lifted (os : Os) (started : os.Started) (H : Type) (enc : TypeId × Value → H) :
    ReturnsInHanded {} Try.checked os 13 .any (Rows.treelogStepsSpec.pre6 enc Try.prog Try.f13 Rows.treelogStepsRow.domain false) (Rows.treelogStepsSpec.post enc Try.prog Try.f13 false true false false) := by
  refine returnsInHanded_of_change (C := Try.checked) own started (by kernel_rfl) Try.func13
    (ChangeSpec.witness6 (enc := enc) (C := Try.checked) false ⟨#[], #[.int .i64 0, .slice none 0 0], []⟩ 8 (by kernel_rfl) (by kernel_rfl) (by kernel_rfl) (by kernel_rfl)) ?_
  intro W base args ds gs before hval0 hW hcnd _
  have hval : ∀ (j : Nat) t v, Try.f13.params[j]? = some t → args[j]? = some v → Value.okWide Try.prog W .any base t v := hval0
  have hW' := hW
  obtain ⟨p, q, hA0, hV, rfl, hfz, hnd⟩ := hW
  have hA : DataW.TrodAll enc Try.prog W 0 (fun _ => true) true Try.f13.params.toList args.toList ds p := hA0
  rw [Try.params13] at hA hval
  obtain ⟨v0, vs0, d0, ds0, p0, q0, hargs, rfl, rfl, h0, r0⟩ := trodAll_cons hA
  obtain ⟨v1, vs1, d1, ds1, p1, q1, rfl, rfl, rfl, h1, r1⟩ := trodAll_cons r0
  obtain ⟨rfl, rfl, rfl⟩ := trodAll_nil r1
  obtain rfl : args = #[v0, v1] := by cases args; simp_all
  obtain ⟨rfl, rfl⟩ := trodVars_none hV
  have k1 := h1
  obtain ⟨a0, rfl, rfl, rfl, w0⟩ := open_int Try.underlying3 (hval 0 3 v0 rfl rfl) h0
  obtain ⟨ad1, cap1, ops1, rfl, S1⟩ := open_ops Try.underlying57 Try.underlying85 (by kernel_rfl) rfl rfl (by kernel_rfl) (by kernel_rfl) Try.underlying4 Try.underlying30 h1 (hval 1 57 v1 rfl rfl)
  clear hA0 hval0
  simp only [List.append_nil] at hW'
  refine (walk a0 ad1 cap1 ops1 W w0 S1).mono fun e W' ⟨he, hg⟩ => ?_
  subst he
  exact ⟨_, rfl, post_of_below (pv := []) hW' (fun _ _ _ => (trodAll_cons_mk (shut_bool Try.underlying4 _) trodAll_mk0))
    (fun sp _ hsp => by subst hsp; exact (trodAll_cons_mk (shut_int Try.underlying3 w0) (trodAll_cons_mk (Below.trod Try.laidOut (by kernel_rfl) (of_decide_eq_true (by kernel_rfl)) k1 hg (fun x hx => hW'.lt x (by simp [hx]))) trodAll_mk0))) (fun _ _ => rfl) (by simp) hg⟩

theorem closed : joinedFacts Try.prog 13 Try.f13 Rows.treelogStepsSpec Rows.treelogStepsRow = true := by
  unfold joinedFacts
  rw [Try.mayEnter, Try.liftsFinal, Try.make]
  kernel_rfl

theorem proved : Rows.TreelogStepsSaid :=
  OpenClaim.holds_of_wide 13 Try.f13 rfl rfl rfl rfl rfl rfl rfl ⟨rfl, rfl, rfl, rfl, rfl⟩ rfl rfl rfl rfl rfl (by kernel_rfl) Try.func13 closed
    (of_decide_eq_true (by kernel_rfl)) (by unfold Func.isWrapper; first | (rw [if_pos (by decide +kernel)]; kernel_rfl) | (rw [if_neg (by decide +kernel)]; exact ⟨rfl, rfl⟩))
    (fun os started H enc _ => lifted os started H enc)
#print axioms proved
end treelogSteps
end Go.Proofs.Ythkdaoomnfgooaa
