/- TreelogErrors: Positions without a leaf have no leaf and no path, numbers of leaves that are out of range cannot be kept, and nothing changes. -/
import Derived.Test.YthkdaoomnfgooaaTreeZ
namespace Go.Proofs.Ythkdaoomnfgooaa
open Go.ChangeShapes Go.WideShapes Go.ChangeAt Go.RowKit
namespace treelogErrors

set_option maxRecDepth 10000 in
set_option maxHeartbeats 4000000 in
theorem walk (d : Int) (ad : Option Addr) (cap : Nat) (ops : List (Bool × Int)) (p : Int) (w : World) (_ : (Lit.int .i64 d).wf = true) (S : OpP w ad cap ops) (_ : (Lit.int .i64 p).wf = true) :
    Calls Try.prog 15 #[.int .i64 d, .slice ad ops.length cap, .int .i64 p] w fun e w' => e = .returned (.bool true) ∧ Below w.heap.size w w' := by
  by_cases h40 : 30 < ops.length
  · have h40' : (30 : Int) < ops.length := by omega
    clear S
    go_enter Try.func15, Try.ntmps15
    go_wp2_with fail
    refine (awake37 _).mono ?_
    rintro ew1 w1 ⟨rfl, hb1⟩
    go_wp2_with fail
    refine (awake37 _).mono ?_
    rintro ew2 w2 ⟨rfl, hb2⟩
    go_wp2
    go_ret
    exact ⟨rfl, below2 hb1 hb2⟩
  have h40' : (ops.length : Int) ≤ 30 := by omega
  by_cases hd : 1 ≤ d ∧ d ≤ 12
  · obtain ⟨n, rfl⟩ := Int.eq_ofNat_of_zero_le (show 0 ≤ d by omega)
    have h1 : 1 ≤ n := by omega
    have h2 : n ≤ 12 := by omega
    have cP := fun (W : World) hs => play_any n ad cap ops W hs S.w h1 h2 (by omega)
    have hok := play_ok (d := n) S.w
    have hs := S.s
    generalize playL n ops = m at *
    have hm4 : m.length ≤ 4096 := Nat.le_trans hok.1 (pow_le12 h2).2
    have hmW := okL_W hok
    clear S hd
    go_enter Try.func15, Try.ntmps15
    go_wp2_with fail
    refine (awake37 _).mono ?_
    rintro ew1 w1 ⟨rfl, hb1⟩
    go_wp2_with fail
    refine (cP w1 (hs.mono hb1)).mono ?_
    rintro e w2 ⟨bL, bV, vs, v, rfl, I⟩
    obtain ⟨a, c, rfl, sm, hmc, _⟩ := Own.sl I.O
    have hB := below2 hb1 I.B
    have T := I.T
    clear cP
    have cL := fun (W : World) h => Leaf_any W w1.heap.size bL bV n vs m p h h1
    have cQ := fun (W : World) h => TPath_any W w1.heap.size bL bV n vs m p h h1 h2 hm4
    by_cases hin : 0 ≤ p ∧ p < m.length
    · obtain ⟨q, rfl⟩ := Int.eq_ofNat_of_zero_le hin.1
      have hq : q < m.length := by omega
      have hq' : (q : Int) < m.length := by omega
      have hk : leafOk m q = true := by unfold leafOk; rw [decide_eq_true hin]
      unfold leafV at cL
      unfold tpathV tpathE at cQ
      simp only [hk, if_true, Int.toNat_natCast] at cL cQ
      obtain ⟨x, hx⟩ : ∃ x, x = m.getD q 0 := ⟨_, rfl⟩
      rw [← hx] at cL
      replace hx := hide hx
      have hxx : (x == x) = true := by simp
      generalize tpath n m q = PL at *
      clear hk hin hok hmW
      go_wp2_with fail
      refine (cL w2 T).mono ?_
      rintro e w3 ⟨rfl, hb3⟩
      clear cL
      go_wp2_with fail
      refine (cQ w3 (T.mono hb3)).mono ?_
      rintro e w4 ⟨v4, rfl, o4, hb4⟩
      replace hb4 := below2 hb3 hb4
      obtain ⟨a4, c4, rfl, _, _, _⟩ := Own.sl o4
      obtain ⟨b, off, rfl, _, hc⟩ := (sm.mono hb4).get hq
      rw [← hx.out] at hc
      clear cQ o4
      go_wp2
      go_ret
      exact ⟨rfl, below2 hB hb4⟩
    · have hk : leafOk m p = false := by unfold leafOk; rw [decide_eq_false hin]
      unfold leafV at cL
      unfold tpathV tpathE at cQ
      simp only [hk, if_false, Bool.false_eq_true] at cL cQ
      have hr1 : p < 0 ∨ (m.length : Int) ≤ p := by omega
      have hn0 : (([] : List Int).length : Int) = 0 := rfl
      by_cases he : p = m.length
      · have he2 : (p == (m.length : Int)) = true := by rw [he]; simp
        have hp0 : 0 ≤ p := by omega
        have hp1 : (m.length : Int) ≤ p := by omega
        clear hk hin hok hmW hr1
        replace he := hide he
        go_wp2_with fail
        refine (cL w2 T).mono ?_
        rintro e w3 ⟨rfl, hb3⟩
        clear cL
        go_wp2_with fail
        refine (cQ w3 (T.mono hb3)).mono ?_
        rintro e w4 ⟨v4, rfl, o4, hb4⟩
        replace hb4 := below2 hb3 hb4
        obtain ⟨a4, c4, rfl, _, _, _⟩ := Own.sl o4
        clear cQ o4
        go_wp2
        go_ret
        exact ⟨rfl, below2 hB hb4⟩
      · have he2 : (p == (m.length : Int)) = false := by simpa using he
        have hin2 : ¬ (0 ≤ p ∧ p ≤ m.length) := by omega
        have cT := fun (W : World) h hz => TTruncate_any W w1.heap.size bL bV n vs m p h h1 h2 hm4 hmW hz
        unfold tcutE tcutL at cT
        simp only [if_neg hin2] at cT
        have cS := fun (W : World) (vs : Nat → Value) h hs => same37_any W w1.heap.size bL bV n vs m a c h hs hok h1 h2
        have hor : p < 0 ∨ 0 ≤ p ∧ (m.length : Int) ≤ p := by omega
        clear hk hin hok hmW hr1 hin2 he
        go_wp2_with fail
        refine (cL w2 T).mono ?_
        rintro e w3 ⟨rfl, hb3⟩
        clear cL
        go_wp2_with fail
        refine (cQ w3 (T.mono hb3)).mono ?_
        rintro e w4 ⟨v4, rfl, o4, hb4⟩
        replace hb4 := below2 hb3 hb4
        obtain ⟨a4, c4, rfl, _, _, _⟩ := Own.sl o4
        replace I := I.mono hb4
        have T4 := I.T
        have hB4 := below2 hB hb4
        clear cQ o4 hb3 hb4 T sm
        rcases hor with hneg | ⟨hp0, hp1⟩
        · go_wp2_with fail
          refine (cT w4 T4 I.B.size).mono ?_
          rintro e w5 ⟨rfl, vs5, T5, i5, k5⟩
          have o5 := (keep_own k5 i5 I.O I.n).1
          obtain ⟨_, _, he, s5, _, _⟩ := Own.sl o5
          injection he with he1 he2 he3
          subst he1
          clear he2 he3
          have hB5 := k5.below hB4 (fun i hi => Nat.le_trans hb1.size (T4.low i hi)) hB4.size
          clear cT
          go_wp2_with fail
          refine (cS w5 vs5 T5 s5).mono ?_
          rintro e w6 ⟨rfl, hb6⟩
          clear cS
          go_wp2
          go_ret
          exact ⟨rfl, below2 hB5 hb6⟩
        · go_wp2_with fail
          refine (cT w4 T4 I.B.size).mono ?_
          rintro e w5 ⟨rfl, vs5, T5, i5, k5⟩
          have o5 := (keep_own k5 i5 I.O I.n).1
          obtain ⟨_, _, he, s5, _, _⟩ := Own.sl o5
          injection he with he1 he2 he3
          subst he1
          clear he2 he3
          have hB5 := k5.below hB4 (fun i hi => Nat.le_trans hb1.size (T4.low i hi)) hB4.size
          clear cT
          go_wp2_with fail
          refine (cS w5 vs5 T5 s5).mono ?_
          rintro e w6 ⟨rfl, hb6⟩
          clear cS
          go_wp2
          go_ret
          exact ⟨rfl, below2 hB5 hb6⟩
  · have cP := fun W : World => play_bad d ad ops.length cap W (by omega)
    clear S hd
    go_enter Try.func15, Try.ntmps15
    go_wp2_with fail
    refine (awake37 _).mono ?_
    rintro ew1 w1 ⟨rfl, hb1⟩
    go_wp2_with fail
    refine (cP w1).mono ?_
    rintro e w2 ⟨rfl, hb2⟩
    clear cP
    go_wp2
    go_ret
    exact ⟨rfl, below2 hb1 hb2⟩

set_option maxRecDepth 100000 in
theorem lifted (os : Os) (started : os.Started) (H : Type) (enc : TypeId × Value → H) :
    ReturnsInHanded {} Try.checked os 15 .any (Rows.treelogErrorsSpec.pre6 enc Try.prog Try.f15 Rows.treelogErrorsRow.domain false) (Rows.treelogErrorsSpec.post enc Try.prog Try.f15 false true false false) := by
  refine returnsInHanded_of_change (C := Try.checked) own started (by kernel_rfl) Try.func15
    (ChangeSpec.witness6 (enc := enc) (C := Try.checked) false ⟨#[], #[.int .i64 0, .slice none 0 0, .int .i64 0], []⟩ 8 (by kernel_rfl) (by kernel_rfl) (by kernel_rfl) (by kernel_rfl)) ?_
  intro W base args ds gs before hval0 hW hcnd _
  have hval : ∀ (j : Nat) t v, Try.f15.params[j]? = some t → args[j]? = some v → Value.okWide Try.prog W .any base t v := hval0
  have hW' := hW
  obtain ⟨p, q, hA0, hV, rfl, hfz, hnd⟩ := hW
  have hA : DataW.TrodAll enc Try.prog W 0 (fun _ => true) true Try.f15.params.toList args.toList ds p := hA0
  rw [Try.params15] at hA hval
  obtain ⟨v0, vs0, d0, ds0, p0, q0, hargs, rfl, rfl, h0, r0⟩ := trodAll_cons hA
  obtain ⟨v1, vs1, d1, ds1, p1, q1, rfl, rfl, rfl, h1, r1⟩ := trodAll_cons r0
  obtain ⟨v2, vs2, d2, ds2, p2, q2, rfl, rfl, rfl, h2, r2⟩ := trodAll_cons r1
  obtain ⟨rfl, rfl, rfl⟩ := trodAll_nil r2
  obtain rfl : args = #[v0, v1, v2] := by cases args; simp_all
  obtain ⟨rfl, rfl⟩ := trodVars_none hV
  have k1 := h1
  obtain ⟨a0, rfl, rfl, rfl, w0⟩ := open_int Try.underlying3 (hval 0 3 v0 rfl rfl) h0
  obtain ⟨ad1, cap1, ops1, rfl, S1⟩ := open_ops Try.underlying57 Try.underlying85 (by kernel_rfl) rfl rfl (by kernel_rfl) (by kernel_rfl) Try.underlying4 Try.underlying30 h1 (hval 1 57 v1 rfl rfl)
  obtain ⟨a2, rfl, rfl, rfl, w2⟩ := open_int Try.underlying3 (hval 2 3 v2 rfl rfl) h2
  clear hA0 hval0
  simp only [List.append_nil] at hW'
  refine (walk a0 ad1 cap1 ops1 a2 W w0 S1 w2).mono fun e W' ⟨he, hg⟩ => ?_
  subst he
  exact ⟨_, rfl, post_of_below (pv := []) hW' (fun _ _ _ => (trodAll_cons_mk (shut_bool Try.underlying4 _) trodAll_mk0))
    (fun sp _ hsp => by subst hsp; exact (trodAll_cons_mk (shut_int Try.underlying3 w0) (trodAll_cons_mk (Below.trod Try.laidOut (by kernel_rfl) (of_decide_eq_true (by kernel_rfl)) k1 hg (fun x hx => hW'.lt x (by simp [hx]))) (trodAll_cons_mk (shut_int Try.underlying3 w2) trodAll_mk0)))) (fun _ _ => rfl) (by simp) hg⟩

theorem closed : joinedFacts Try.prog 15 Try.f15 Rows.treelogErrorsSpec Rows.treelogErrorsRow = true := by
  unfold joinedFacts
  rw [Try.mayEnter, Try.liftsFinal, Try.make]
  kernel_rfl

theorem proved : Rows.TreelogErrorsSaid :=
  OpenClaim.holds_of_wide 15 Try.f15 rfl rfl rfl rfl rfl rfl rfl ⟨rfl, rfl, rfl, rfl, rfl⟩ rfl rfl rfl rfl rfl (by kernel_rfl) Try.func15 closed
    (of_decide_eq_true (by kernel_rfl)) (by unfold Func.isWrapper; first | (rw [if_pos (by decide +kernel)]; kernel_rfl) | (rw [if_neg (by decide +kernel)]; exact ⟨rfl, rfl⟩))
    (fun os started H enc _ => lifted os started H enc)
#print axioms proved
end treelogErrors
end Go.Proofs.Ythkdaoomnfgooaa
