/- FrontierPaths: The path of each place of a tree leads from its contents to the root. -/
import Derived.Test.YthkdaoomnfgooaaFronW
import Derived.Test.YthkdaoomnfgooaaOpen
namespace Go.Proofs.Ythkdaoomnfgooaa
open Go.ChangeShapes Go.WideShapes Go.ChangeAt Go.RowKit
namespace frontierPaths

set_option maxRecDepth 10000 in
set_option maxHeartbeats 4000000 in
theorem walk (d : Int) (ad : Option Addr) (cap : Nat) (l : List Int) (p : Int) (w : World) (_ : (Lit.int .i64 d).wf = true) (S : SlP w .u64 ad cap l) (_ : (Lit.int .i64 p).wf = true) :
    Calls Try.prog 9 #[.int .i64 d, .slice ad l.length cap, .int .i64 p] w fun e w' => e = .returned (.bool true) ∧ Below w.heap.size w w' := by
  have hs := S.sl
  have hw := wfs_u64 S.wf
  have cR := fun (W : World) (hs : Sl W .u64 ad l) => right_any d ad cap l W hs hw
  clear S
  by_cases hr : rightB d l = true
  · rw [hr] at cR
    obtain ⟨d1, d2, hl, hb⟩ := of_decide_eq_true hr
    obtain ⟨n, rfl⟩ := Int.eq_ofNat_of_zero_le (show 0 ≤ d by omega)
    rw [Int.toNat_natCast] at hl
    have h1 : 1 ≤ n := by omega
    have h2 : n ≤ 12 := by omega
    have hp := (pow_le12 h2).2
    have epow : ((2 : Int) ^ n) = ((2 ^ n : Nat) : Int) := (Int.natCast_pow 2 _).symm
    obtain ⟨M, hM⟩ : ∃ M : Nat, M = 2 ^ n := ⟨_, rfl⟩
    have hwp : IntKind.i64.wrap ((2 : Int) ^ n) = M := by rw [epow, ← hM, IntKind.wrap_i64]; omega
    have hn' : (n : Int) ≤ 12 := by omega
    by_cases h0 : p < 0
    · clear hr d1 d2 h1 h2 hp hl hb epow hM hwp hn'
      go_enter Try.func9, Try.ntmps9
      go_wp2_with fail
      refine (awake36 _).mono ?_
      rintro ew1 w1 ⟨rfl, hb1⟩
      go_wp2_with fail
      refine (cR w1 (hs.mono hb1)).mono ?_
      rintro e w2 ⟨rfl, hb2⟩
      replace hb2 := below2 hb1 hb2
      clear hb1 cR
      go_wp2_with fail
      refine (awake36 _).mono ?_
      rintro ew3 w3 ⟨rfl, hb3⟩
      go_wp2
      go_ret
      exact ⟨rfl, below2 hb2 hb3⟩
    obtain ⟨q, rfl⟩ := Int.eq_ofNat_of_zero_le (show 0 ≤ p by omega)
    by_cases hq : M ≤ q
    · have hq' : (M : Int) ≤ q := by omega
      clear hr d1 d2 h1 h2 hp hl hb epow hM
      go_enter Try.func9, Try.ntmps9
      go_wp2_with fail
      refine (awake36 _).mono ?_
      rintro ew1 w1 ⟨rfl, hb1⟩
      go_wp2_with fail
      refine (cR w1 (hs.mono hb1)).mono ?_
      rintro e w2 ⟨rfl, hb2⟩
      replace hb2 := below2 hb1 hb2
      clear hb1 cR
      go_wp2_with fail
      refine (awake36 _).mono ?_
      rintro ew3 w3 ⟨rfl, hb3⟩
      go_wp2
      go_ret
      exact ⟨rfl, below2 hb2 hb3⟩
    have hq' : (q : Int) < M := by omega
    have cG := fun (W : World) (hs : Sl W .u64 ad l) => grown_any n ad cap l W hs hw h1 h2 hl hb
    have cT := fun (ad : Option Addr) (cap : Nat) (W : World) hs => Root_any n l.length ad cap (fro n l) W hs (fro_W n l hw) (by rw [fro_len]; omega) (by omega)
    have cS := fun (W : World) (hs : Sl W .u64 ad l) => Places_any n ad cap l W hs h2 hl
    have cP := fun (W : World) (hs : Sl W .u64 ad l) => Path_any n q ad cap l W hs hw h2 hl (by omega)
    have cC := fun (ad : Option Addr) (cap : Nat) (W : World) hs => Climb_any ((placesL n l).getD q 0) q ad cap (pathL n (placesL n l) q) W ((places_W hw).get (by rw [places_len hl]; omega)) (by omega) hs (path_W _ _ _ (places_W hw)) (by rw [path_len]; omega)
    rw [froot_fro' h1 h2 hl hb] at cT
    rw [fclimb_path h2 hl hb (by omega)] at cC
    have hqP : q < (placesL n l).length := by rw [places_len hl]; omega
    have hll : l.length < 9223372036854775808 := by omega
    generalize top n (placesL n l) = R at *
    have hRR : (R == R) = true := by simp
    generalize fro n l = F at *
    generalize pathL n (placesL n l) q = PL at *
    generalize placesL n l = X at *
    clear hr d1 d2 h1 h2 hp hl hb epow hM hq h0
    go_enter Try.func9, Try.ntmps9
    go_wp2_with fail
    refine (awake36 _).mono ?_
    rintro ew1 w1 ⟨rfl, hb1⟩
    go_wp2_with fail
    refine (cR w1 (hs.mono hb1)).mono ?_
    rintro e w2 ⟨rfl, hb2⟩
    replace hb2 := below2 hb1 hb2
    clear hb1 cR
    go_wp2_with fail
    refine (cG w2 (hs.mono hb2)).mono ?_
    rintro e w3 ⟨v, rfl, o3, hb3⟩
    replace o3 := o3.low hb2.size
    replace hb3 := below2 hb2 hb3
    obtain ⟨a, c, rfl, _, _, _⟩ := Own.sl o3
    clear cG hb2 hwp
    go_wp2_with fail
    refine name_calls fun W hW => ?_
    have g0 : Blk W w3.heap.size #[.int .i64 n, .int .i64 l.length, .slice a F.length c] 28 := by rw [hW]; exact Blk.newAt rfl
    have hB : Below w.heap.size w W := by rw [hW]; exact hb3.alloc hb3.size _
    replace o3 : Own W w.heap.size 30 .u64 (.slice a F.length c) F := by rw [hW]; exact o3.alloc _
    clear hW hb3
    obtain ⟨_, _, he, s3, _, _⟩ := Own.sl o3
    injection he with he1 he2 he3
    subst he1
    clear he2 he3 o3
    refine (cS W (hs.mono hB)).mono ?_
    rintro e w4 ⟨v4, rfl, o4, hb4⟩
    replace g0 := g0.mono hb4
    replace s3 := s3.mono hb4
    replace hB := below2 hB hb4
    obtain ⟨a4, c4, rfl, s4, _, _⟩ := Own.sl o4
    obtain ⟨b, off, rfl, _, hc⟩ := s4.get hqP
    obtain ⟨x, hx⟩ : ∃ x, x = X.getD q 0 := ⟨_, rfl⟩
    rw [← hx] at hc cC
    clear cS hb4 o4 s4 hx
    go_wp2_with fail
    clear hc
    have k0 := cell_later' (g0.cell (j := 0) (v := .int .i64 n) rfl); have k1 := cell_later' (g0.cell (j := 1) (v := .int .i64 l.length) rfl); have k2 := cell_later' (g0.cell (j := 2) (v := .slice a F.length c) rfl)
    refine Rel.wp_region_mix 11 [] [(7, fun v w => Own w w4.heap.size 30 .u64 v PL), (8, fun v _ => v = .int .u64 R), (10, fun v _ => v = .int .u64 R)] Try.mixed (by kernel_rfl) (by kernel_rfl) ?_ ?_
    rotate_left
    simp only [List.take_succ_cons, List.take_zero, List.drop_succ_cons, List.drop_zero, List.map_cons, List.map_nil]
    repeat (first | (refine Rel.wpA_b (by rfl) ?_) | (refine Rel.wpA_step (by rfl) fun K hK => ?_; go_simp; first | (refine hK _ ?_; clear hK K) | (apply Exists.intro; refine ⟨fun _ => ?_, hK _ ?_⟩; (first | fail); clear hK K)))
    refine Rel.wpA_nil ?_
    rotate_left
    · intro z hz v u u' h1 h2
      simp only [List.mem_cons, List.not_mem_nil, or_false] at hz
      rcases hz with rfl | rfl | rfl
      · exact Own.mono h1 h2
      · exact h1
      · exact h1
    refine Rel.wpB_step _ rfl rfl (fun p' hc => ?_) (fun v7 => ?_)
    · go_simp
      exact rUpon_sl (cP _ ((hs.mono hB).mono (below_later _ _)))
    refine Rel.wpB_step _ rfl rfl (fun p' hc => ?_) (fun v8 => ?_)
    · have h7 := hc _ (List.Mem.head _) (by kernel_rfl)
      obtain ⟨ad', c', rfl, hsl, _, _⟩ := Own.sl h7
      go_simp
      exact rUpon_q (cC _ _ _ hsl)
    refine Rel.wpB_step _ rfl rfl (fun p' hc => ?_) (fun v10 => ?_)
    · go_simp
      exact rUpon_q (cT _ _ _ (s3.mono (below_later _ _)))
    refine Rel.wpB_nil ?_
    intro p' hctx hfr
    simp only [List.nil_append, List.cons_append, List.mem_cons, List.not_mem_nil, or_false, forall_eq_or_imp, forall_eq] at hctx
    obtain ⟨_, rfl, rfl⟩ := hctx
    have hb5 := below2 hB (below_later w4 p')
    clear hfr k0 k1 k2 cP cC cT
    generalize later w4 p' = w5 at *
    go_wp2
    go_ret
    exact ⟨rfl, hb5⟩
  · replace hr : rightB d l = false := by simpa using hr
    rw [hr] at cR
    clear hr
    go_enter Try.func9, Try.ntmps9
    go_wp2_with fail
    refine (awake36 _).mono ?_
    rintro ew1 w1 ⟨rfl, hb1⟩
    go_wp2_with fail
    refine (cR w1 (hs.mono hb1)).mono ?_
    rintro e w2 ⟨rfl, hb2⟩
    replace hb2 := below2 hb1 hb2
    clear hb1 cR
    go_wp2_with fail
    refine (awake36 _).mono ?_
    rintro ew3 w3 ⟨rfl, hb3⟩
    go_wp2
    go_ret
    exact ⟨rfl, below2 hb2 hb3⟩

set_option maxRecDepth 100000 in
theorem lifted (os : Os) (started : os.Started) (H : Type) (enc : TypeId × Value → H) :
    ReturnsInHanded {} Try.checked os 9 .any (Rows.frontierPathsSpec.pre6 enc Try.prog Try.f9 Rows.frontierPathsRow.domain false) (Rows.frontierPathsSpec.post enc Try.prog Try.f9 false true false false) := by
  refine returnsInHanded_of_change (C := Try.checked) own started (by kernel_rfl) Try.func9
    (ChangeSpec.witness6 (enc := enc) (C := Try.checked) false ⟨#[], #[.int .i64 0, .slice none 0 0, .int .i64 0], []⟩ 8 (by kernel_rfl) (by kernel_rfl) (by kernel_rfl) (by kernel_rfl)) ?_
  intro W base args ds gs before hval0 hW hcnd _
  have hval : ∀ (j : Nat) t v, Try.f9.params[j]? = some t → args[j]? = some v → Value.okWide Try.prog W .any base t v := hval0
  have hW' := hW
  obtain ⟨p, q, hA0, hV, rfl, hfz, hnd⟩ := hW
  have hA : DataW.TrodAll enc Try.prog W 0 (fun _ => true) true Try.f9.params.toList args.toList ds p := hA0
  rw [Try.params9] at hA hval
  obtain ⟨v0, vs0, d0, ds0, p0, q0, hargs, rfl, rfl, h0, r0⟩ := trodAll_cons hA
  obtain ⟨v1, vs1, d1, ds1, p1, q1, rfl, rfl, rfl, h1, r1⟩ := trodAll_cons r0
  obtain ⟨v2, vs2, d2, ds2, p2, q2, rfl, rfl, rfl, h2, r2⟩ := trodAll_cons r1
  obtain ⟨rfl, rfl, rfl⟩ := trodAll_nil r2
  obtain rfl : args = #[v0, v1, v2] := by cases args; simp_all
  obtain ⟨rfl, rfl⟩ := trodVars_none hV
  have k1 := h1
  obtain ⟨a0, rfl, rfl, rfl, w0⟩ := open_int Try.underlying3 (hval 0 3 v0 rfl rfl) h0
  obtain ⟨ad1, cap1, xs1, rfl, S1⟩ := open_slice Try.underlying22 Try.underlying30 (by kernel_rfl) h1 (hval 1 22 v1 rfl rfl) (fun x hx => hW'.lt x (by simp [hx]))
  obtain ⟨a2, rfl, rfl, rfl, w2⟩ := open_int Try.underlying3 (hval 2 3 v2 rfl rfl) h2
  clear hA0 hval0
  simp only [List.append_nil] at hW'
  refine (walk a0 ad1 cap1 xs1 a2 W w0 S1 w2).mono fun e W' ⟨he, hg⟩ => ?_
  subst he
  exact ⟨_, rfl, post_of_below (pv := []) hW' (fun _ _ _ => (trodAll_cons_mk (shut_bool Try.underlying4 _) trodAll_mk0))
    (fun sp _ hsp => by subst hsp; exact (trodAll_cons_mk (shut_int Try.underlying3 w0) (trodAll_cons_mk (Below.trod Try.laidOut (by kernel_rfl) (of_decide_eq_true (by kernel_rfl)) k1 hg (fun x hx => hW'.lt x (by simp [hx]))) (trodAll_cons_mk (shut_int Try.underlying3 w2) trodAll_mk0)))) (fun _ _ => rfl) (by simp) hg⟩

theorem closed : joinedFacts Try.prog 9 Try.f9 Rows.frontierPathsSpec Rows.frontierPathsRow = true := by
  unfold joinedFacts
  rw [Try.mayEnter, Try.liftsFinal, Try.make]
  kernel_rfl

theorem proved : Rows.FrontierPathsSaid :=
  OpenClaim.holds_of_wide 9 Try.f9 rfl rfl rfl rfl rfl rfl rfl ⟨rfl, rfl, rfl, rfl, rfl⟩ rfl rfl rfl rfl rfl (by kernel_rfl) Try.func9 closed
    (of_decide_eq_true (by kernel_rfl)) (by unfold Func.isWrapper; first | (rw [if_pos (by decide +kernel)]; kernel_rfl) | (rw [if_neg (by decide +kernel)]; exact ⟨rfl, rfl⟩))
    (fun os started H enc _ => lifted os started H enc)
#print axioms proved
end frontierPaths
end Go.Proofs.Ythkdaoomnfgooaa
