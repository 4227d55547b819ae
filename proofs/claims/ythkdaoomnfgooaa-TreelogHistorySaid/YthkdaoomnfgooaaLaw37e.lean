/- TreelogHistory: Results do not depend on how the present leaves came about. -/
import Derived.Test.YthkdaoomnfgooaaTreeZ
namespace Go.Proofs.Ythkdaoomnfgooaa
open Go.ChangeShapes Go.WideShapes Go.ChangeAt Go.RowKit
namespace treelogHistory

set_option maxRecDepth 10000 in
set_option maxHeartbeats 4000000 in
theorem walk (d : Int) (ad : Option Addr) (cap : Nat) (ops : List (Bool × Int)) (w : World) (_ : (Lit.int .i64 d).wf = true) (S : OpP w ad cap ops) :
    Calls Try.prog 11 #[.int .i64 d, .slice ad ops.length cap] w fun e w' => e = .returned (.bool true) ∧ Below w.heap.size w w' := by
  by_cases h40 : 40 < ops.length
  · have h40' : (40 : Int) < ops.length := by omega
    clear S
    go_enter Try.func11, Try.ntmps11
    go_wp2_with fail
    refine (awake37 _).mono ?_
    rintro ew1 w1 ⟨rfl, hb1⟩
    go_wp2_with fail
    refine (awake37 _).mono ?_
    rintro ew2 w2 ⟨rfl, hb2⟩
    go_wp2
    go_ret
    exact ⟨rfl, below2 hb1 hb2⟩
  have h40' : (ops.length : Int) ≤ 40 := by omega
  by_cases hd : 1 ≤ d ∧ d ≤ 12
  · obtain ⟨n, rfl⟩ := Int.eq_ofNat_of_zero_le (show 0 ≤ d by omega)
    have h1 : 1 ≤ n := by omega
    have h2 : n ≤ 12 := by omega
    have cP := fun (W : World) hs => play_any n ad cap ops W hs S.w h1 h2 (by omega)
    have hok := play_ok (d := n) S.w
    have hs := S.s
    generalize playL n ops = m at *
    have hm4 : m.length ≤ 4096 := Nat.le_trans hok.1 (pow_le12 h2).2
    have hmW := okL_W hok
    clear S hd
    go_enter Try.func11, Try.ntmps11
    go_wp2_with fail
    refine (awake37 _).mono ?_
    rintro ew1 w1 ⟨rfl, hb1⟩
    go_wp2_with fail
    refine (cP w1 (hs.mono hb1)).mono ?_
    rintro e w2 ⟨bL, bV, vs, v, rfl, I⟩
    obtain ⟨a, c, rfl, sm, hmc, _⟩ := Own.sl I.O
    have hB := below2 hb1 I.B
    have T := I.T
    clear cP
    have cA : ∀ (i : Nat) (_ : i < m.length) (bL bV : Nat) (vs : Nat → Value) (W : World), (LogS W w2.heap.size bL bV n vs fun k => lev k (m.take i)) → w2.heap.size ≤ W.heap.size → Calls Try.prog 45 #[.pointer (some ⟨bL, 0, none⟩), .int .u64 (m.getD i 0)] W fun e w' => e = .returned (.int .i64 0) ∧ LogR W w' w2.heap.size bL bV n vs fun k => lev k (m.take (i + 1)) := fun i hi bL bV vs W h hz => by
      have hx := hok.2 _ (getD_mem hi)
      have hl : (m.take i).length = i := by rw [List.length_take]; omega
      have hne : ¬ (m.take i).length = 2 ^ n := by rw [hl]; have := hok.1; omega
      have := TAppend_any W w2.heap.size bL bV n vs (m.take i) (m.getD i 0) h h1 h2 (hmW.get hi) (by rw [hl]; have := hok.1; omega) (fun x hx => hmW x (List.mem_of_mem_take hx)) hz
      unfold tappE tappL at this
      simp only [if_pos hx.2, if_neg hne] at this
      rw [← take_succ_getD m 0 hi] at this
      exact this
    have cQ : ∀ (q : Nat), q < m.length → ∀ (base bL bV : Nat) (vs : Nat → Value) (W : World), (LogS W base bL bV n vs fun k => lev k m) → Calls Try.prog 46 #[.pointer (some ⟨bL, 0, none⟩), .int .i64 q] W (RetP W (tpath n m q) 0) := fun q hq base bL bV vs W h => by
      have := TPath_any W base bL bV n vs m q h h1 h2 hm4
      have hk : leafOk m q = true := by unfold leafOk; rw [decide_eq_true]; omega
      unfold tpathV tpathE at this
      rw [hk, if_pos rfl, if_pos rfl, Int.toNat_natCast] at this
      exact this
    have cR := fun (base bL bV : Nat) (vs : Nat → Value) (W : World) h => TRoot_any W base bL bV n vs m h h1 h2
    have cC := fun (base bL bV : Nat) (vs : Nat → Value) (W : World) (h : LogS W base bL bV n vs fun k => lev k m) => Count_any W base bL bV n vs _ h h1
    simp only [lev_zero] at cC
    have hRR : (dig n 0 m == dig n 0 m) = true := by simp
    generalize dig n 0 m = R at *
    have hll : ((m.length : Int) == (m.length : Int)) = true := by simp
    have cN := TNew_any n w2 h1 h2
    clear hok hmW
    go_wp2_with fail
    refine cN.mono ?_
    rintro e w3 ⟨bL2, bV2, vs2, rfl, T3, hb3⟩
    clear cN
    go_wp2_with fail
    have T3' : LogS w3 w2.heap.size bL2 bV2 n vs2 fun k => lev k (m.take 0) := T3
    clear T3
    go_loopw [48] (fun t48 wr => ∃ (i : Nat) (vs2 : Nat → Value), i ≤ m.length ∧ t48 = .int .i64 i ∧ (LogS wr w2.heap.size bL2 bV2 n vs2 fun k => lev k (m.take i)) ∧ Below w2.heap.size w2 wr) (fun t48 _ => m.length - (intOf t48).toNat)
    case atStart => exact ⟨0, vs2, by omega, rfl, T3', hb3⟩
    case round =>
      clear T3' hb3 vs2
      obtain ⟨i, vs2, hi, rfl, T2, hZ⟩ := hrel
      by_cases hlt : i < m.length
      · have hlt' : (i : Int) < m.length := by omega
        have cA2 := cA i hlt bL2 bV2 vs2
        obtain ⟨b, off, rfl, _, hc⟩ := (sm.mono hZ).get hlt
        obtain ⟨x, hx⟩ : ∃ x, x = m.getD i 0 := ⟨_, rfl⟩
        rw [← hx] at hc cA2
        clear hx cA cQ cR cC
        go_wp2_with fail
        refine (cA2 wr T2 hZ.size).mono ?_
        rintro e w5 ⟨rfl, vs5, T5, _, k5⟩
        have hZ5 := k5.below hZ (fun i hi => T2.low i hi) hZ.size
        clear cA2 T2 k5 hZ
        go_wp2
        go_roundw
        case rel => exact ⟨i + 1, vs5, by omega, by go_num, T5, hZ5⟩
        case measure => simp [intOf]; omega
      · obtain rfl : i = m.length := by omega
        rw [List.take_length] at T2
        clear cA
        go_wp2_with fail
        go_loopw [59] (fun t59 wr => ∃ q : Nat, q ≤ m.length ∧ t59 = .int .i64 q ∧ (LogS wr w2.heap.size bL2 bV2 n vs2 fun k => lev k m) ∧ Below w2.heap.size w2 wr) (fun t59 _ => m.length - (intOf t59).toNat)
        case atStart => exact ⟨0, by omega, rfl, T2, hZ⟩
        case round =>
          clear T2 hZ
          obtain ⟨q, hq, rfl, T2, hZ⟩ := hrel
          by_cases hlt : q < m.length
          · have hlt' : (q : Int) < m.length := by omega
            have cQ1 := cQ q hlt
            have hPl := tpath_len n m q
            generalize tpath n m q = PL at *
            have hdd : decide (PL = PL) = true := by simp
            have cS := fun (ad ad' : Option Addr) (c c' : Nat) (W : World) hs ht => rSame1_any ad ad' c c' PL PL W hs ht (by omega)
            rw [hdd] at cS
            clear hPl hdd cQ cR cC
            go_wp2_with fail
            refine (cQ1 _ _ _ _ wr (T.mono hZ)).mono ?_
            rintro e w5 ⟨v5, rfl, o5, hb5⟩
            replace hZ := below2 hZ hb5
            replace T2 := T2.mono hb5
            obtain ⟨a5, c5, rfl, s5, _, _⟩ := Own.sl o5
            clear hb5 o5
            go_wp2_with fail
            refine (cQ1 _ _ _ _ w5 T2).mono ?_
            rintro e w6 ⟨v6, rfl, o6, hb6⟩
            replace hZ := below2 hZ hb6
            replace T2 := T2.mono hb6
            replace s5 := s5.mono hb6
            obtain ⟨a6, c6, rfl, s6, _, _⟩ := Own.sl o6
            clear hb6 o6 cQ1
            go_wp2_with fail
            refine (cS _ _ _ _ w6 s5 s6).mono ?_
            rintro e w7 ⟨rfl, hb7⟩
            replace hZ := below2 hZ hb7
            replace T2 := T2.mono hb7
            clear cS hb7 s5 s6
            go_wp2
            go_roundw
            case rel => exact ⟨q + 1, by omega, by go_num, T2, hZ⟩
            case measure => simp [intOf]; omega
          · obtain rfl : q = m.length := by omega
            clear cQ
            go_wp2_with fail
            refine (cR _ _ _ _ wr (T.mono hZ)).mono ?_
            rintro e w5 ⟨rfl, hb5⟩
            replace hZ := below2 hZ hb5
            replace T2 := T2.mono hb5
            clear hb5
            go_wp2_with fail
            refine (cR _ _ _ _ w5 T2).mono ?_
            rintro e w6 ⟨rfl, hb6⟩
            replace hZ := below2 hZ hb6
            replace T2 := T2.mono hb6
            clear hb6 cR
            go_wp2_with fail
            refine (cC _ _ _ _ w6 (T.mono hZ)).mono ?_
            rintro e w7 ⟨rfl, hb7⟩
            replace hZ := below2 hZ hb7
            replace T2 := T2.mono hb7
            clear hb7
            go_wp2_with fail
            refine (cC _ _ _ _ w7 T2).mono ?_
            rintro e w8 ⟨rfl, hb8⟩
            replace hZ := below2 hZ hb8
            clear hb8 cC T2
            go_wp2
            go_ret
            exact ⟨rfl, below2 hB hZ⟩
  · have cP := fun W : World => play_bad d ad ops.length cap W (by omega)
    clear S hd
    go_enter Try.func11, Try.ntmps11
    go_wp2_with fail
    refine (awake37 _).mono ?_
    rintro ew1 w1 ⟨rfl, hb1⟩
    go_wp2_with fail
    refine (cP w1).mono ?_
    rintro e w2 ⟨rfl, hb2⟩
    clear cP
    go_wp2
    go_ret
    exact ⟨rfl, below2 hb1 hb2⟩

set_option maxRecDepth 100000 in
theorem lifted (os : Os) (started : os.Started) (H : Type) (enc : TypeId × Value → H) :
    ReturnsInHanded {} Try.checked os 11 .any (Rows.treelogHistorySpec.pre6 enc Try.prog Try.f11 Rows.treelogHistoryRow.domain false) (Rows.treelogHistorySpec.post enc Try.prog Try.f11 false true false false) := by
  refine returnsInHanded_of_change (C := Try.checked) own started (by kernel_rfl) Try.func11
    (ChangeSpec.witness6 (enc := enc) (C := Try.checked) false ⟨#[], #[.int .i64 0, .slice none 0 0], []⟩ 8 (by kernel_rfl) (by kernel_rfl) (by kernel_rfl) (by kernel_rfl)) ?_
  intro W base args ds gs before hval0 hW hcnd _
  have hval : ∀ (j : Nat) t v, Try.f11.params[j]? = some t → args[j]? = some v → Value.okWide Try.prog W .any base t v := hval0
  have hW' := hW
  obtain ⟨p, q, hA0, hV, rfl, hfz, hnd⟩ := hW
  have hA : DataW.TrodAll enc Try.prog W 0 (fun _ => true) true Try.f11.params.toList args.toList ds p := hA0
  rw [Try.params11] at hA hval
  obtain ⟨v0, vs0, d0, ds0, p0, q0, hargs, rfl, rfl, h0, r0⟩ := trodAll_cons hA
  obtain ⟨v1, vs1, d1, ds1, p1, q1, rfl, rfl, rfl, h1, r1⟩ := trodAll_cons r0
  obtain ⟨rfl, rfl, rfl⟩ := trodAll_nil r1
  obtain rfl : args = #[v0, v1] := by cases args; simp_all
  obtain ⟨rfl, rfl⟩ := trodVars_none hV
  have k1 := h1
  obtain ⟨a0, rfl, rfl, rfl, w0⟩ := open_int Try.underlying3 (hval 0 3 v0 rfl rfl) h0
  obtain ⟨ad1, cap1, ops1, rfl, S1⟩ := open_ops Try.underlying57 Try.underlying85 (by kernel_rfl) rfl rfl (by kernel_rfl) (by kernel_rfl) Try.underlying4 Try.underlying30 h1 (hval 1 57 v1 rfl rfl)
  clear hA0 hval0
  simp only [List.append_nil] at hW'
  refine (walk a0 ad1 cap1 ops1 W w0 S1).mono fun e W' ⟨he, hg⟩ => ?_
  subst he
  exact ⟨_, rfl, post_of_below (pv := []) hW' (fun _ _ _ => (trodAll_cons_mk (shut_bool Try.underlying4 _) trodAll_mk0))
    (fun sp _ hsp => by subst hsp; exact (trodAll_cons_mk (shut_int Try.underlying3 w0) (trodAll_cons_mk (Below.trod Try.laidOut (by kernel_rfl) (of_decide_eq_true (by kernel_rfl)) k1 hg (fun x hx => hW'.lt x (by simp [hx]))) trodAll_mk0))) (fun _ _ => rfl) (by simp) hg⟩

theorem closed : joinedFacts Try.prog 11 Try.f11 Rows.treelogHistorySpec Rows.treelogHistoryRow = true := by
  unfold joinedFacts
  rw [Try.mayEnter, Try.liftsFinal, Try.make]
  kernel_rfl

theorem proved : Rows.TreelogHistorySaid :=
  OpenClaim.holds_of_wide 11 Try.f11 rfl rfl rfl rfl rfl rfl rfl ⟨rfl, rfl, rfl, rfl, rfl⟩ rfl rfl rfl rfl rfl (by kernel_rfl) Try.func11 closed
    (of_decide_eq_true (by kernel_rfl)) (by unfold Func.isWrapper; first | (rw [if_pos (by decide +kernel)]; kernel_rfl) | (rw [if_neg (by decide +kernel)]; exact ⟨rfl, rfl⟩))
    (fun os started H enc _ => lifted os started H enc)
#print axioms proved
end treelogHistory
end Go.Proofs.Ythkdaoomnfgooaa
