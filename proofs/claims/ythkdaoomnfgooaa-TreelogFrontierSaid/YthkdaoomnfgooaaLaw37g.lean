/- TreelogFrontier: The root is that of the frontier with the same leaves. -/
import Derived.Test.YthkdaoomnfgooaaTreeZ
import Derived.Test.YthkdaoomnfgooaaTreeY
namespace Go.Proofs.Ythkdaoomnfgooaa
open Go.ChangeShapes Go.WideShapes Go.ChangeAt Go.RowKit
namespace treelogFrontier

set_option maxRecDepth 10000 in
set_option maxHeartbeats 4000000 in
theorem walk (d : Int) (ad : Option Addr) (cap : Nat) (ops : List (Bool × Int)) (w : World) (_ : (Lit.int .i64 d).wf = true) (S : OpP w ad cap ops) :
    Calls Try.prog 17 #[.int .i64 d, .slice ad ops.length cap] w fun e w' => e = .returned (.bool true) ∧ Below w.heap.size w w' := by
  by_cases h40 : 40 < ops.length
  · have h40' : (40 : Int) < ops.length := by omega
    clear S
    go_enter Try.func17, Try.ntmps17
    go_wp2_with fail
    refine (awake37 _).mono ?_
    rintro ew1 w1 ⟨rfl, hb1⟩
    go_wp2_with fail
    refine (awake37 _).mono ?_
    rintro ew2 w2 ⟨rfl, hb2⟩
    go_wp2
    go_ret
    exact ⟨rfl, below2 hb1 hb2⟩
  have h40' : (ops.length : Int) ≤ 40 := by omega
  by_cases hd : 1 ≤ d ∧ d ≤ 12
  · obtain ⟨n, rfl⟩ := Int.eq_ofNat_of_zero_le (show 0 ≤ d by omega)
    have h1 : 1 ≤ n := by omega
    have h2 : n ≤ 12 := by omega
    have cP := fun (W : World) hs => play_any n ad cap ops W hs S.w h1 h2 (by omega)
    have hok := play_ok (d := n) S.w
    have hs := S.s
    generalize playL n ops = m at *
    have hm4 : m.length ≤ 4096 := Nat.le_trans hok.1 (pow_le12 h2).2
    have hmW := okL_W hok
    clear S hd
    go_enter Try.func17, Try.ntmps17
    go_wp2_with fail
    refine (awake37 _).mono ?_
    rintro ew1 w1 ⟨rfl, hb1⟩
    go_wp2_with fail
    refine (cP w1 (hs.mono hb1)).mono ?_
    rintro e w2 ⟨bL, bV, vs, v, rfl, I⟩
    obtain ⟨a, c, rfl, sm, hmc, _⟩ := Own.sl I.O
    have hB := below2 hb1 I.B
    have T := I.T
    clear cP
    have hmb : ∀ x ∈ m, x < big := fun x hx => (hok.2 x hx).2
    have cN := New_any n w2
    rw [(newL_nat h1 h2).1, (newL_nat h1 h2).2] at cN
    have cA : ∀ (i : Nat), i < m.length → ∀ (ad : Option Addr) (cap : Nat) (W : World), Sl W .u64 ad (fro n (m.take i)) → Calls Try.prog 32 #[.agg #[.int .i64 n, .int .i64 i, .slice ad (fro n (m.take i)).length cap], .int .u64 (m.getD i 0)] W (RetA W n (i + 1) (fro n (m.take (i + 1))) 0) := by
      intro i hi ad cap W hs
      have hti : (m.take i).length = i := by rw [List.length_take]; omega
      have := Append_any n i (m.getD i 0) ad cap (fro n (m.take i)) W (hmW.get hi) hs (fro_W n _ fun x hx => hmW x (List.mem_of_mem_take hx)) (by rw [fro_len]; omega) (by omega)
      have hap := fro_append (x := m.getD i 0) (l := m.take i) h1 h2 (by rw [hti]; have := hok.1; omega) (fun x hx => hmb x (List.mem_of_mem_take hx)) (hmb _ (getD_mem hi))
      rw [← take_succ_getD m 0 hi, hti] at hap
      rw [hap.1, hap.2.1, hap.2.2.1, hap.2.2.2] at this
      exact this
    have cF := fun (ad : Option Addr) (cap : Nat) (W : World) hs => Root_any n m.length ad cap (fro n m) W hs (fro_W n _ hmW) (by rw [fro_len]; omega) (by omega)
    rw [froot_fro' h1 h2 hok.1 hmb, ← dig_top hok.1] at cF
    have cR := fun (W : World) h => TRoot_any W w1.heap.size bL bV n vs m h h1 h2
    have cC := fun (W : World) (h : LogS W w1.heap.size bL bV n vs fun k => lev k m) => Count_any W w1.heap.size bL bV n vs _ h h1
    simp only [lev_zero] at cC
    generalize dig n 0 m = R at *
    have hRR : (R == R) = true := by simp
    have hll : ((m.length : Int) == (m.length : Int)) = true := by simp
    obtain ⟨G, hG⟩ : ∃ G : Nat → List Int, G = fun i => fro n (m.take i) := ⟨_, rfl⟩
    have hGe : ∀ i, fro n (m.take i) = G i := fun i => by rw [hG]
    have hG0 : fro n [] = G 0 := hGe 0
    have hGl : fro n m = G m.length := by rw [← hGe, List.take_length]
    rw [hG0] at cN
    simp only [hGe] at cA
    rw [hGl] at cF
    clear hG hGe hG0 hGl hok hmW hmb
    go_wp2_with fail
    refine cN.mono ?_
    rintro e w3 ⟨v, rfl, o3, hb3⟩
    obtain ⟨a3, c3, rfl, _, _, _⟩ := Own.sl o3
    clear cN
    go_wp2_with fail
    have gf : Blk (w3.alloc (.cells #[.int .i64 n, .int .i64 0, .slice a3 (G 0).length c3] 28)) w3.heap.size #[.int .i64 n, .int .i64 0, .slice a3 (G 0).length c3] 28 := Blk.newAt rfl
    have B0 := hb3.alloc hb3.size (.cells #[.int .i64 n, .int .i64 0, .slice a3 (G 0).length c3] 28)
    have O0 := o3.alloc (.cells #[.int .i64 n, .int .i64 0, .slice a3 (G 0).length c3] 28)
    have hbs := hb3.size
    clear hb3 o3
    generalize w3.heap.size = b8 at *
    go_loopw [39] (fun t39 wr => ∃ i : Nat, i ≤ m.length ∧ t39 = .int .i64 i ∧ Below w2.heap.size w2 wr ∧ ∃ a c, Blk wr b8 #[.int .i64 n, .int .i64 i, .slice a (G i).length c] 28 ∧ Own wr w2.heap.size 30 .u64 (.slice a (G i).length c) (G i)) (fun t39 _ => m.length - (intOf t39).toNat)
    case atStart => exact ⟨0, by omega, rfl, B0, _, _, gf, O0⟩
    case round =>
      clear B0 O0 gf
      obtain ⟨i, hi, rfl, hZ, af, cf, gf, ho⟩ := hrel
      obtain ⟨_, _, he, sF, _, _⟩ := Own.sl ho
      injection he with he1 he2 he3
      subst he1
      clear he2 he3
      by_cases hlt : i < m.length
      · have hlt' : (i : Int) < m.length := by omega
        have cA2 := cA i hlt
        obtain ⟨b, off, rfl, _, hc⟩ := (sm.mono hZ).get hlt
        obtain ⟨x, hx⟩ : ∃ x, x = m.getD i 0 := ⟨_, rfl⟩
        rw [← hx] at hc cA2
        obtain ⟨F', hF'⟩ : ∃ F', F' = G (i + 1) := ⟨_, rfl⟩
        rw [← hF'] at cA2
        clear cA cF cR cC hx
        generalize G i = F at *
        have k0 := gf.cell (j := 0) (v := .int .i64 n) rfl; have k1 := gf.cell (j := 1) (v := .int .i64 i) rfl; have k2 := gf.cell (j := 2) (v := .slice af F.length cf) rfl
        replace hF' := hide hF'
        go_wp2_with fail
        refine (cA2 _ _ _ sF).mono ?_
        rintro e w4 ⟨v, rfl, o4, hb4⟩
        obtain ⟨a4, c4, rfl, _, _, _⟩ := Own.sl o4
        replace o4 := o4.low hZ.size
        replace gf := gf.mono hb4
        replace hZ := below2 hZ hb4
        clear cA2 hb4 k0 k1 k2 sF ho hc
        have gf' := gf.alloc (.cells #[.int .i64 n, .int .i64 (i + 1), .slice a4 F'.length c4] 28)
        have hZ' := hZ.alloc hZ.size (.cells #[.int .i64 n, .int .i64 (i + 1), .slice a4 F'.length c4] 28)
        have o4' := o4.alloc (.cells #[.int .i64 n, .int .i64 (i + 1), .slice a4 F'.length c4] 28)
        have hn := own_ne_blk o4' gf' (by decide)
        have k0 := gf'.cell (j := 0) (v := .int .i64 n) rfl; have k1 := gf'.cell (j := 1) (v := .int .i64 i) rfl; have k2 := gf'.cell (j := 2) (v := .slice af F.length cf) rfl
        have f := gf'.free
        clear gf hZ o4
        go_wp2
        go_roundw
        case rel =>
          refine ⟨i + 1, by omega, by go_num, below_set3 hZ' hbs _ _ _, a4, c4, ?_, ?_⟩
          · rw [← hF'.out]
            exact Blk.set3 gf'
          · rw [← hF'.out]
            exact ((o4'.other hn _).other hn _).other hn _
        case measure => simp [intOf]; omega
      · obtain rfl : i = m.length := by omega
        have k0 := cell_later' (gf.cell (j := 0) (v := .int .i64 n) rfl); have k1 := cell_later' (gf.cell (j := 1) (v := .int .i64 m.length) rfl); have k2 := cell_later' (gf.cell (j := 2) (v := .slice af (G m.length).length cf) rfl)
        have TZ := T.mono hZ
        clear cA ho hlt hi
        go_wp2_with fail
        refine wp_region_later Try.mixed (by kernel_rfl) ?_
        repeat (first | go_big_quiet_step (first | (go_at_call 24; exact Calls.later_of (cF _ _ _ (sF.mono (below_later _ _)))) | (go_at_call 48; exact Calls.later_of (cR _ (TZ.mono (below_later _ _)))) | (go_at_call 49; exact Calls.later_of (cC _ (TZ.mono (below_later _ _))))) | quiet_step (first | (go_at_call 24; exact Calls.later_of (cF _ _ _ (sF.mono (below_later _ _)))) | (go_at_call 48; exact Calls.later_of (cR _ (TZ.mono (below_later _ _)))) | (go_at_call 49; exact Calls.later_of (cC _ (TZ.mono (below_later _ _))))))
        refine wpQuiet_nil ?_
        intro w9 hb9
        replace hb9 := below_of_later hb9
        clear k0 k1 k2 cF cR cC
        go_wp2
        go_ret
        exact ⟨rfl, below2 hB (below2 hZ hb9)⟩
  · have cP := fun W : World => play_bad d ad ops.length cap W (by omega)
    clear S hd
    go_enter Try.func17, Try.ntmps17
    go_wp2_with fail
    refine (awake37 _).mono ?_
    rintro ew1 w1 ⟨rfl, hb1⟩
    go_wp2_with fail
    refine (cP w1).mono ?_
    rintro e w2 ⟨rfl, hb2⟩
    clear cP
    go_wp2
    go_ret
    exact ⟨rfl, below2 hb1 hb2⟩

set_option maxRecDepth 100000 in
theorem lifted (os : Os) (started : os.Started) (H : Type) (enc : TypeId × Value → H) :
    ReturnsInHanded {} Try.checked os 17 .any (Rows.treelogFrontierSpec.pre6 enc Try.prog Try.f17 Rows.treelogFrontierRow.domain false) (Rows.treelogFrontierSpec.post enc Try.prog Try.f17 false true false false) := by
  refine returnsInHanded_of_change (C := Try.checked) own started (by kernel_rfl) Try.func17
    (ChangeSpec.witness6 (enc := enc) (C := Try.checked) false ⟨#[], #[.int .i64 0, .slice none 0 0], []⟩ 8 (by kernel_rfl) (by kernel_rfl) (by kernel_rfl) (by kernel_rfl)) ?_
  intro W base args ds gs before hval0 hW hcnd _
  have hval : ∀ (j : Nat) t v, Try.f17.params[j]? = some t → args[j]? = some v → Value.okWide Try.prog W .any base t v := hval0
  have hW' := hW
  obtain ⟨p, q, hA0, hV, rfl, hfz, hnd⟩ := hW
  have hA : DataW.TrodAll enc Try.prog W 0 (fun _ => true) true Try.f17.params.toList args.toList ds p := hA0
  rw [Try.params17] at hA hval
  obtain ⟨v0, vs0, d0, ds0, p0, q0, hargs, rfl, rfl, h0, r0⟩ := trodAll_cons hA
  obtain ⟨v1, vs1, d1, ds1, p1, q1, rfl, rfl, rfl, h1, r1⟩ := trodAll_cons r0
  obtain ⟨rfl, rfl, rfl⟩ := trodAll_nil r1
  obtain rfl : args = #[v0, v1] := by cases args; simp_all
  obtain ⟨rfl, rfl⟩ := trodVars_none hV
  have k1 := h1
  obtain ⟨a0, rfl, rfl, rfl, w0⟩ := open_int Try.underlying3 (hval 0 3 v0 rfl rfl) h0
  obtain ⟨ad1, cap1, ops1, rfl, S1⟩ := open_ops Try.underlying57 Try.underlying85 (by kernel_rfl) rfl rfl (by kernel_rfl) (by kernel_rfl) Try.underlying4 Try.underlying30 h1 (hval 1 57 v1 rfl rfl)
  clear hA0 hval0
  simp only [List.append_nil] at hW'
  refine (walk a0 ad1 cap1 ops1 W w0 S1).mono fun e W' ⟨he, hg⟩ => ?_
  subst he
  exact ⟨_, rfl, post_of_below (pv := []) hW' (fun _ _ _ => (trodAll_cons_mk (shut_bool Try.underlying4 _) trodAll_mk0))
    (fun sp _ hsp => by subst hsp; exact (trodAll_cons_mk (shut_int Try.underlying3 w0) (trodAll_cons_mk (Below.trod Try.laidOut (by kernel_rfl) (of_decide_eq_true (by kernel_rfl)) k1 hg (fun x hx => hW'.lt x (by simp [hx]))) trodAll_mk0))) (fun _ _ => rfl) (by simp) hg⟩

theorem closed : joinedFacts Try.prog 17 Try.f17 Rows.treelogFrontierSpec Rows.treelogFrontierRow = true := by
  unfold joinedFacts
  rw [Try.mayEnter, Try.liftsFinal, Try.make]
  kernel_rfl

theorem proved : Rows.TreelogFrontierSaid :=
  OpenClaim.holds_of_wide 17 Try.f17 rfl rfl rfl rfl rfl rfl rfl ⟨rfl, rfl, rfl, rfl, rfl⟩ rfl rfl rfl rfl rfl (by kernel_rfl) Try.func17 closed
    (of_decide_eq_true (by kernel_rfl)) (by unfold Func.isWrapper; first | (rw [if_pos (by decide +kernel)]; kernel_rfl) | (rw [if_neg (by decide +kernel)]; exact ⟨rfl, rfl⟩))
    (fun os started H enc _ => lifted os started H enc)
#print axioms proved
end treelogFrontier
end Go.Proofs.Ythkdaoomnfgooaa
