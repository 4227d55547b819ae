/- TreelogPaths: The path of each leaf leads to the root. -/
import Derived.Test.YthkdaoomnfgooaaTreeZ
import Derived.Test.YthkdaoomnfgooaaTreeY
namespace Go.Proofs.Ythkdaoomnfgooaa
open Go.ChangeShapes Go.WideShapes Go.ChangeAt Go.RowKit
namespace treelogPaths

set_option maxRecDepth 10000 in
set_option maxHeartbeats 4000000 in
theorem walk (d : Int) (ad : Option Addr) (cap : Nat) (ops : List (Bool × Int)) (w : World) (_ : (Lit.int .i64 d).wf = true) (S : OpP w ad cap ops) :
    Calls Try.prog 16 #[.int .i64 d, .slice ad ops.length cap] w fun e w' => e = .returned (.bool true) ∧ Below w.heap.size w w' := by
  by_cases h40 : 40 < ops.length
  · have h40' : (40 : Int) < ops.length := by omega
    clear S
    go_enter Try.func16, Try.ntmps16
    go_wp2_with fail
    refine (awake37 _).mono ?_
    rintro ew1 w1 ⟨rfl, hb1⟩
    go_wp2_with fail
    refine (awake37 _).mono ?_
    rintro ew2 w2 ⟨rfl, hb2⟩
    go_wp2
    go_ret
    exact ⟨rfl, below2 hb1 hb2⟩
  have h40' : (ops.length : Int) ≤ 40 := by omega
  by_cases hd : 1 ≤ d ∧ d ≤ 12
  · obtain ⟨n, rfl⟩ := Int.eq_ofNat_of_zero_le (show 0 ≤ d by omega)
    have h1 : 1 ≤ n := by omega
    have h2 : n ≤ 12 := by omega
    have cP := fun (W : World) hs => play_any n ad cap ops W hs S.w h1 h2 (by omega)
    have hok := play_ok (d := n) S.w
    have hs := S.s
    generalize playL n ops = m at *
    have hm4 : m.length ≤ 4096 := Nat.le_trans hok.1 (pow_le12 h2).2
    have hmW := okL_W hok
    clear S hd
    go_enter Try.func16, Try.ntmps16
    go_wp2_with fail
    refine (awake37 _).mono ?_
    rintro ew1 w1 ⟨rfl, hb1⟩
    go_wp2_with fail
    refine (cP w1 (hs.mono hb1)).mono ?_
    rintro e w2 ⟨bL, bV, vs, v, rfl, I⟩
    obtain ⟨a, c, rfl, sm, hmc, _⟩ := Own.sl I.O
    have hB := below2 hb1 I.B
    have T := I.T
    clear cP
    have cQ : ∀ (q : Nat), q < m.length → ∀ (W : World), (LogS W w1.heap.size bL bV n vs fun k => lev k m) → Calls Try.prog 46 #[.pointer (some ⟨bL, 0, none⟩), .int .i64 q] W (RetP W (tpath n m q) 0) := fun q hq W h => by
      have := TPath_any W w1.heap.size bL bV n vs m q h h1 h2 hm4
      have hk : leafOk m q = true := by unfold leafOk; rw [decide_eq_true]; omega
      unfold tpathV tpathE at this
      rw [hk, if_pos rfl, if_pos rfl, Int.toNat_natCast] at this
      exact this
    have hmb : ∀ x ∈ m, x < big := fun x hx => (hok.2 x hx).2
    have cM : ∀ (q : Nat), q < m.length → ∀ (ad : Option Addr) (cap : Nat) (W : World), Sl W .u64 ad (tpath n m q) → Calls Try.prog 39 #[.int .u64 (m.getD q 0), .int .i64 q, .slice ad (tpath n m q).length cap] W fun e w' => e = .returned (.int .u64 (dig n 0 m)) ∧ Below W.heap.size W w' := fun q hq ad cap W h => by
      have := Climb_any (m.getD q 0) q ad cap (tpath n m q) W (hmW.get hq) (by omega) h (tpath_W hmW) (by rw [tpath_len]; omega)
      rw [fclimb_leaf h2 hq hok.1 hmb] at this
      exact this
    have cM2 : ∀ (q : Nat), q < m.length → ∀ (ad : Option Addr) (cap : Nat) (W : World), Sl W .u64 ad (tpath n m q) → Calls Try.prog 53 #[.int .u64 (m.getD q 0), .int .i64 q, .slice ad (tpath n m q).length cap] W fun e w' => e = .returned (.int .u64 (dig n 0 m)) ∧ Below W.heap.size W w' := fun q hq ad cap W h => by
      have := rTClimb_any (m.getD q 0) q ad cap (tpath n m q) W (hmW.get hq) h (tpath_W hmW) (by rw [tpath_len]; omega)
      rw [climb_leaf hq hok.1] at this
      exact this
    have cR := fun (W : World) h => TRoot_any W w1.heap.size bL bV n vs m h h1 h2
    have hPl : ∀ q, ((tpath n m q).length : Int) = (n : Int) := fun q => by rw [tpath_len]
    generalize dig n 0 m = R at *
    have hRR : (R != R) = false := by simp
    clear hok hmW hmb
    go_wp2_with fail
    go_loopw [36] (fun t36 wr => ∃ q : Nat, q ≤ m.length ∧ t36 = .int .i64 q ∧ Below w2.heap.size w2 wr) (fun t36 _ => m.length - (intOf t36).toNat)
    case atStart => exact ⟨0, by omega, rfl, Below.refl _ _⟩
    case round =>
      obtain ⟨q, hq, rfl, hZ⟩ := hrel
      by_cases hlt : q < m.length
      · have hlt' : (q : Int) < m.length := by omega
        have cQ1 := cQ q hlt
        have cM1 := cM q hlt
        have cM3 := cM2 q hlt
        have hP1 := hPl q
        obtain ⟨b, off, rfl, _, hc⟩ := (sm.mono hZ).get hlt
        obtain ⟨x, hx⟩ : ∃ x, x = m.getD q 0 := ⟨_, rfl⟩
        rw [← hx] at hc cM1 cM3
        generalize tpath n m q = PL at *
        have hPn : ((PL.length : Int) != (n : Int)) = false := by rw [hP1]; simp
        clear hx cQ cM cM2 hPl hP1
        go_wp2_with fail
        refine (cQ1 wr (T.mono hZ)).mono ?_
        rintro e w5 ⟨v5, rfl, o5, hb5⟩
        replace hZ := below2 hZ hb5
        obtain ⟨a5, c5, rfl, s5, _, _⟩ := Own.sl o5
        clear hb5 o5 cQ1 hc
        go_wp2_with fail
        refine (cM1 _ _ w5 s5).mono ?_
        rintro e w6 ⟨rfl, hb6⟩
        replace hZ := below2 hZ hb6
        replace s5 := s5.mono hb6
        clear hb6 cM1
        go_wp2_with fail
        refine (cR w6 (T.mono hZ)).mono ?_
        rintro e w7 ⟨rfl, hb7⟩
        replace hZ := below2 hZ hb7
        replace s5 := s5.mono hb7
        clear hb7
        go_wp2_with fail
        refine (cM3 _ _ w7 s5).mono ?_
        rintro e w8 ⟨rfl, hb8⟩
        replace hZ := below2 hZ hb8
        clear hb8 cM3 s5
        go_wp2_with fail
        refine (cR w8 (T.mono hZ)).mono ?_
        rintro e w9 ⟨rfl, hb9⟩
        replace hZ := below2 hZ hb9
        clear hb9 cR
        go_wp2
        go_roundw
        case rel => exact ⟨q + 1, by omega, by go_num, hZ⟩
        case measure => simp [intOf]; omega
      · obtain rfl : q = m.length := by omega
        go_wp2
        go_ret
        exact ⟨rfl, below2 hB hZ⟩
  · have cP := fun W : World => play_bad d ad ops.length cap W (by omega)
    clear S hd
    go_enter Try.func16, Try.ntmps16
    go_wp2_with fail
    refine (awake37 _).mono ?_
    rintro ew1 w1 ⟨rfl, hb1⟩
    go_wp2_with fail
    refine (cP w1).mono ?_
    rintro e w2 ⟨rfl, hb2⟩
    clear cP
    go_wp2
    go_ret
    exact ⟨rfl, below2 hb1 hb2⟩

set_option maxRecDepth 100000 in
theorem lifted (os : Os) (started : os.Started) (H : Type) (enc : TypeId × Value → H) :
    ReturnsInHanded {} Try.checked os 16 .any (Rows.treelogPathsSpec.pre6 enc Try.prog Try.f16 Rows.treelogPathsRow.domain false) (Rows.treelogPathsSpec.post enc Try.prog Try.f16 false true false false) := by
  refine returnsInHanded_of_change (C := Try.checked) own started (by kernel_rfl) Try.func16
    (ChangeSpec.witness6 (enc := enc) (C := Try.checked) false ⟨#[], #[.int .i64 0, .slice none 0 0], []⟩ 8 (by kernel_rfl) (by kernel_rfl) (by kernel_rfl) (by kernel_rfl)) ?_
  intro W base args ds gs before hval0 hW hcnd _
  have hval : ∀ (j : Nat) t v, Try.f16.params[j]? = some t → args[j]? = some v → Value.okWide Try.prog W .any base t v := hval0
  have hW' := hW
  obtain ⟨p, q, hA0, hV, rfl, hfz, hnd⟩ := hW
  have hA : DataW.TrodAll enc Try.prog W 0 (fun _ => true) true Try.f16.params.toList args.toList ds p := hA0
  rw [Try.params16] at hA hval
  obtain ⟨v0, vs0, d0, ds0, p0, q0, hargs, rfl, rfl, h0, r0⟩ := trodAll_cons hA
  obtain ⟨v1, vs1, d1, ds1, p1, q1, rfl, rfl, rfl, h1, r1⟩ := trodAll_cons r0
  obtain ⟨rfl, rfl, rfl⟩ := trodAll_nil r1
  obtain rfl : args = #[v0, v1] := by cases args; simp_all
  obtain ⟨rfl, rfl⟩ := trodVars_none hV
  have k1 := h1
  obtain ⟨a0, rfl, rfl, rfl, w0⟩ := open_int Try.underlying3 (hval 0 3 v0 rfl rfl) h0
  obtain ⟨ad1, cap1, ops1, rfl, S1⟩ := open_ops Try.underlying57 Try.underlying85 (by kernel_rfl) rfl rfl (by kernel_rfl) (by kernel_rfl) Try.underlying4 Try.underlying30 h1 (hval 1 57 v1 rfl rfl)
  clear hA0 hval0
  simp only [List.append_nil] at hW'
  refine (walk a0 ad1 cap1 ops1 W w0 S1).mono fun e W' ⟨he, hg⟩ => ?_
  subst he
  exact ⟨_, rfl, post_of_below (pv := []) hW' (fun _ _ _ => (trodAll_cons_mk (shut_bool Try.underlying4 _) trodAll_mk0))
    (fun sp _ hsp => by subst hsp; exact (trodAll_cons_mk (shut_int Try.underlying3 w0) (trodAll_cons_mk (Below.trod Try.laidOut (by kernel_rfl) (of_decide_eq_true (by kernel_rfl)) k1 hg (fun x hx => hW'.lt x (by simp [hx]))) trodAll_mk0))) (fun _ _ => rfl) (by simp) hg⟩

theorem closed : joinedFacts Try.prog 16 Try.f16 Rows.treelogPathsSpec Rows.treelogPathsRow = true := by
  unfold joinedFacts
  rw [Try.mayEnter, Try.liftsFinal, Try.make]
  kernel_rfl

theorem proved : Rows.TreelogPathsSaid :=
  OpenClaim.holds_of_wide 16 Try.f16 rfl rfl rfl rfl rfl rfl rfl ⟨rfl, rfl, rfl, rfl, rfl⟩ rfl rfl rfl rfl rfl (by kernel_rfl) Try.func16 closed
    (of_decide_eq_true (by kernel_rfl)) (by unfold Func.isWrapper; first | (rw [if_pos (by decide +kernel)]; kernel_rfl) | (rw [if_neg (by decide +kernel)]; exact ⟨rfl, rfl⟩))
    (fun os started H enc _ => lifted os started H enc)
#print axioms proved
end treelogPaths
end Go.Proofs.Ythkdaoomnfgooaa
