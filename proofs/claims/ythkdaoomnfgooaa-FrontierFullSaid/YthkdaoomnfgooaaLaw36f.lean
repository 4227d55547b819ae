/- FrontierFull: A tree takes exactly as many leaves as it has places. -/
import Derived.Test.YthkdaoomnfgooaaFronW
import Derived.Test.YthkdaoomnfgooaaOpen
namespace Go.Proofs.Ythkdaoomnfgooaa
open Go.ChangeShapes Go.WideShapes Go.ChangeAt Go.RowKit
namespace frontierFull

theorem rep_big {x : Int} (h : x < big) (i : Nat) : ∀ y ∈ List.replicate i x, y < big := fun y hy => by rw [(List.mem_replicate.1 hy).2]; exact h
theorem rep_W {x : Int} (h : 0 ≤ x ∧ x < 18446744073709551616) (i : Nat) : AllW (List.replicate i x) := fun y hy => by rw [(List.mem_replicate.1 hy).2]; exact h

/-- What Append gives on a full frontier. -/
theorem full_append {n : Nat} {l : List Int} {x : Int} (h1 : 1 ≤ n) (h2 : n ≤ 12) (hl : l.length = 2 ^ n) (hb : ∀ x ∈ l, x < big) (hx : x < big) :
    appD n l.length (fro n l) x = 0 ∧ appC n l.length (fro n l) x = 0 ∧ appF n l.length (fro n l) x = [] ∧ appE n l.length (fro n l) x = 16 := by
  have e : ((2 : Int) ^ n) = ((2 ^ n : Nat) : Int) := (Int.natCast_pow 2 n).symm
  have hv := fro_fvld h1 h2 (Nat.le_of_eq hl) hb
  have hne : (l.length : Int) = 2 ^ n := by omega
  have e0 : appOk n l.length (fro n l) x = false := by
    unfold appOk
    rw [Int.toNat_natCast, decide_eq_true hne]; simp
  refine ⟨by unfold appD; rw [e0]; rfl, by unfold appC; rw [e0]; rfl, by unfold appF; rw [e0]; rfl, ?_⟩
  unfold appE
  rw [hv, decide_eq_true hx, Int.toNat_natCast, if_pos hne]; rfl

set_option maxRecDepth 10000 in
set_option maxHeartbeats 4000000 in
theorem walk (d x : Int) (w : World) (hd : (Lit.int .u8 d).wf = true) (hx : (Lit.int .u64 x).wf = true) :
    Calls Try.prog 7 #[.int .u8 d, .int .u64 x] w fun e w' => e = .returned (.bool true) ∧ Below w.heap.size w w' := by
  have hxb := wf_u64 hx
  clear hx
  by_cases h0 : d < 1
  · clear hxb hd
    go_enter Try.func7, Try.ntmps7
    go_wp2_with fail
    refine (awake36 _).mono ?_
    rintro ew1 w1 ⟨rfl, hb1⟩
    go_wp2_with fail
    refine (awake36 _).mono ?_
    rintro ew2 w2 ⟨rfl, hb2⟩
    go_wp2
    go_ret
    exact ⟨rfl, below2 hb1 hb2⟩
  by_cases h4 : 4 < d
  · have h0' : 1 ≤ d := by omega
    clear hxb hd
    go_enter Try.func7, Try.ntmps7
    go_wp2_with fail
    refine (awake36 _).mono ?_
    rintro ew1 w1 ⟨rfl, hb1⟩
    go_wp2_with fail
    refine (awake36 _).mono ?_
    rintro ew2 w2 ⟨rfl, hb2⟩
    go_wp2
    go_ret
    exact ⟨rfl, below2 hb1 hb2⟩
  obtain ⟨n, rfl⟩ := Int.eq_ofNat_of_zero_le (show 0 ≤ d by omega)
  have h1 : 1 ≤ n := by omega
  have h2 : n ≤ 12 := by omega
  have h1' : (1 : Int) ≤ n := by omega
  have h4' : (n : Int) ≤ 4 := by omega
  by_cases hbx : 18446744069414584321 ≤ x
  · clear hxb hd h1 h2
    go_enter Try.func7, Try.ntmps7
    go_wp2_with fail
    refine (awake36 _).mono ?_
    rintro ew1 w1 ⟨rfl, hb1⟩
    go_wp2_with fail
    refine (awake36 _).mono ?_
    rintro ew2 w2 ⟨rfl, hb2⟩
    go_wp2
    go_ret
    exact ⟨rfl, below2 hb1 hb2⟩
  have hbx' : x < 18446744069414584321 := by omega
  have hbig : x < big := hbx'
  obtain ⟨p1, p2⟩ := pow_le12 h2
  have epow : ((2 : Int) ^ n) = ((2 ^ n : Nat) : Int) := (Int.natCast_pow 2 _).symm
  have cN := fun W : World => New_any n W
  rw [(newL_nat h1 h2).1, (newL_nat h1 h2).2] at cN
  have cA := fun (i : Nat) (hi : i < 2 ^ n) (ad : Option Addr) (cap : Nat) (W : World) hs => Append_any n i x ad cap (fro n (List.replicate i x)) W hxb hs (fro_W n _ (rep_W hxb i)) (by rw [fro_len]; omega) (by omega)
  have cA' : ∀ (i : Nat), i < 2 ^ n → ∀ (ad : Option Addr) (cap : Nat) (W : World), Sl W .u64 ad (fro n (List.replicate i x)) → Calls Try.prog 32 #[.agg #[.int .i64 n, .int .i64 i, .slice ad (fro n (List.replicate i x)).length cap], .int .u64 x] W (RetA W n (i + 1) (fro n (List.replicate (i + 1) x)) 0) := by
    intro i hi ad cap W hs
    have := cA i hi ad cap W hs
    have hap := fro_append (x := x) (l := List.replicate i x) h1 h2 (by rw [List.length_replicate]; exact hi) (rep_big hbig i) hbig
    rw [List.length_replicate, ← List.replicate_succ'] at hap
    rw [hap.1, hap.2.1, hap.2.2.1, hap.2.2.2] at this
    exact this
  clear cA
  obtain ⟨M, hM⟩ : ∃ M : Nat, M = 2 ^ n := ⟨_, rfl⟩
  have hlM : (List.replicate M x).length = 2 ^ n := by rw [List.length_replicate, hM]
  have cF := fun (ad : Option Addr) (cap : Nat) (W : World) hs => Append_any n M x ad cap (fro n (List.replicate M x)) W hxb hs (fro_W n _ (rep_W hxb M)) (by rw [fro_len]; omega) (by omega)
  have hap := full_append (x := x) h1 h2 hlM (rep_big hbig M) hbig
  rw [List.length_replicate] at hap
  rw [hap.1, hap.2.1, hap.2.2.1, hap.2.2.2] at cF
  have cV := fun (ad : Option Addr) (cap : Nat) (W : World) hs => Valid_any n M ad cap (fro n (List.replicate M x)) W hs (fro_W n _ (rep_W hxb M)) (by rw [fro_len]; omega) (by omega)
  have hv := fro_fvld h1 h2 (Nat.le_of_eq hlM) (rep_big hbig M)
  rw [List.length_replicate] at hv
  rw [hv] at cV
  have cR := fun (ad : Option Addr) (cap : Nat) (W : World) hs => Root_any n M ad cap (fro n (List.replicate M x)) W hs (fro_W n _ (rep_W hxb M)) (by rw [fro_len]; omega) (by omega)
  have hfr : froot n M (fro n (List.replicate M x)) = (fro n (List.replicate M x)).getD n 0 := by
    unfold froot
    rw [if_pos hv, Int.toNat_natCast, if_pos (by omega)]
  rw [hfr] at cR
  have hwp : IntKind.i64.wrap ((2 : Int) ^ n) = M := by rw [epow, ← hM, IntKind.wrap_i64]; omega
  have hFl : (fro n (List.replicate M x)).length = n + 1 := fro_len _ _
  rw [← hM] at cA' p1 p2
  clear hap hlM hv hfr epow hbig hd h2 h4 h0 h1 hbx
  replace hM := hide hM
  obtain ⟨G, hG⟩ : ∃ G : Nat → List Int, G = fun i => fro n (List.replicate i x) := ⟨_, rfl⟩
  have hGe : ∀ i, fro n (List.replicate i x) = G i := fun i => by rw [hG]
  have hG0 : fro n [] = G 0 := hGe 0
  rw [hG0] at cN
  simp only [hGe] at cA' cF cV cR hFl
  clear hG hGe hG0 hxb
  go_enter Try.func7, Try.ntmps7
  go_wp2_with fail
  refine (awake36 _).mono ?_
  rintro ew1 w1 ⟨rfl, hb1⟩
  go_wp2_with fail
  refine (cN w1).mono ?_
  rintro e w2 ⟨v, rfl, o2, hb2⟩
  replace o2 := o2.low hb1.size
  replace hb2 := below2 hb1 hb2
  obtain ⟨a, c, rfl, _, _, _⟩ := Own.sl o2
  clear cN hb1
  go_wp2_with fail
  have gf : Blk (w2.alloc (.cells #[.int .i64 n, .int .i64 0, .slice a (G 0).length c] 28)) w2.heap.size #[.int .i64 n, .int .i64 0, .slice a (G 0).length c] 28 := Blk.newAt rfl
  have B0 := hb2.alloc hb2.size (.cells #[.int .i64 n, .int .i64 0, .slice a (G 0).length c] 28)
  have O0 := o2.alloc (.cells #[.int .i64 n, .int .i64 0, .slice a (G 0).length c] 28)
  have hbs := hb2.size
  clear hb2 o2
  generalize w2.heap.size = b at *
  go_loopw [30] (fun t30 wr => ∃ i : Nat, i ≤ M ∧ t30 = .int .i64 i ∧ Below w.heap.size w wr ∧ ∃ a c, Blk wr b #[.int .i64 n, .int .i64 i, .slice a (G i).length c] 28 ∧ Own wr w.heap.size 30 .u64 (.slice a (G i).length c) (G i)) (fun t30 _ => M - (intOf t30).toNat)
  case atStart => exact ⟨0, by omega, rfl, B0, _, _, gf, O0⟩
  case round =>
    clear B0 O0 gf
    obtain ⟨i, hi, rfl, hB, a, c, gf, ho⟩ := hrel
    obtain ⟨_, _, he, sF, _, _⟩ := Own.sl ho
    injection he with he1 he2 he3
    subst he1
    clear he2 he3
    by_cases hlt : i < M
    · have cA := cA' i hlt
      clear cA' cF cV cR hFl
      obtain ⟨F', hF'⟩ : ∃ F', F' = G (i + 1) := ⟨_, rfl⟩
      rw [← hF'] at cA
      generalize G i = F at *
      have k0 := gf.cell (j := 0) (v := .int .i64 n) rfl; have k1 := gf.cell (j := 1) (v := .int .i64 i) rfl; have k2 := gf.cell (j := 2) (v := .slice a F.length c) rfl
      replace hF' := hide hF'
      have hlt' : (i : Int) < M := by omega
      go_wp2_with fail
      refine (cA _ _ _ sF).mono ?_
      rintro e w3 ⟨v, rfl, o3, hb3⟩
      obtain ⟨a2, c2, rfl, _, _, _⟩ := Own.sl o3
      replace o3 := o3.low (show w.heap.size ≤ wr.heap.size by have := gf.lt; omega)
      replace gf := gf.mono hb3
      replace hB := below2 hB hb3
      clear cA hb3 k0 k1 k2 sF ho
      have gf' := gf.alloc (.cells #[.int .i64 n, .int .i64 (i + 1), .slice a2 F'.length c2] 28)
      have hB' := hB.alloc hB.size (.cells #[.int .i64 n, .int .i64 (i + 1), .slice a2 F'.length c2] 28)
      have o3' := o3.alloc (.cells #[.int .i64 n, .int .i64 (i + 1), .slice a2 F'.length c2] 28)
      have hn := own_ne_blk o3' gf' (by decide)
      have k0 := gf'.cell (j := 0) (v := .int .i64 n) rfl; have k1 := gf'.cell (j := 1) (v := .int .i64 i) rfl; have k2 := gf'.cell (j := 2) (v := .slice a F.length c) rfl
      have f := gf'.free
      clear gf hB o3
      go_wp2
      go_roundw
      case rel =>
        refine ⟨i + 1, by omega, by go_num, below_set3 hB' hbs _ _ _, a2, c2, ?_, ?_⟩
        · rw [← hF'.out]
          exact Blk.set3 gf'
        · rw [← hF'.out]
          exact ((o3'.other hn _).other hn _).other hn _
      case measure => simp [intOf]; omega
    · have e : M = i := by omega
      subst e
      have hge : (M : Int) ≤ M := Int.le_refl _
      clear cA' hi hlt
      obtain ⟨y, hy⟩ : ∃ y, y = (G M).getD n 0 := ⟨_, rfl⟩
      obtain ⟨bb, off, rfl, _, hc⟩ := sF.get (show n < (G M).length by omega)
      rw [← hy] at hc cR
      have hyy : (y == y) = true := by simp
      have hMM : ((M : Int) == (M : Int)) = true := by simp
      have hnF : n < (G M).length := by omega
      have hLn : (((G M).length : Int) == (n : Int) + 1) = true := by rw [hFl]; simp
      have hz : (([] : List Int).length : Int) = 0 := rfl
      generalize G M = F at *
      clear hy hFl p1 ho
      have k0 := gf.cell (j := 0) (v := .int .i64 n) rfl; have k1 := gf.cell (j := 1) (v := .int .i64 M) rfl; have k2 := gf.cell (j := 2) (v := .slice (some ⟨bb, off, none⟩) F.length c) rfl
      go_wp2_with fail
      refine (cF _ _ wr sF).mono ?_
      rintro e w3 ⟨v, rfl, o3, hb3⟩
      replace gf := gf.mono hb3
      replace hc := cell_below hb3 hc
      replace sF := sF.mono hb3
      replace hB := below2 hB hb3
      obtain ⟨a2, c2, rfl, _, _, _⟩ := Own.sl o3
      clear k0 k1 k2 cF hb3 o3
      go_wp2_with fail
      have hB' := hB.alloc hB.size (.cells #[.int .i64 0, .int .i64 0, .slice a2 ([] : List Int).length c2] 28)
      have gf' := gf.alloc (.cells #[.int .i64 0, .int .i64 0, .slice a2 ([] : List Int).length c2] 28)
      have hc' := cell_below ((Below.refl _ _).alloc (Nat.le_refl _) (.cells #[.int .i64 0, .int .i64 0, .slice a2 ([] : List Int).length c2] 28)) hc
      have sF' := sF.alloc (.cells #[.int .i64 0, .int .i64 0, .slice a2 ([] : List Int).length c2] 28)
      have g8 : Blk (w3.alloc (.cells #[.int .i64 0, .int .i64 0, .slice a2 ([] : List Int).length c2] 28)) w3.heap.size #[.int .i64 0, .int .i64 0, .slice a2 ([] : List Int).length c2] 28 := Blk.newAt rfl
      clear hB gf hc sF
      generalize w3.alloc (.cells #[.int .i64 0, .int .i64 0, .slice a2 ([] : List Int).length c2] 28) = W at *
      generalize w3.heap.size = b8 at *
      have k0 := cell_later' (gf'.cell (j := 0) (v := .int .i64 n) rfl); have k1 := cell_later' (gf'.cell (j := 1) (v := .int .i64 M) rfl); have k2 := cell_later' (gf'.cell (j := 2) (v := .slice (some ⟨bb, off, none⟩) F.length c) rfl)
      have k3 := cell_later' (g8.cell (j := 2) (v := .slice a2 ([] : List Int).length c2) rfl)
      have k4 := cell_later' hc'
      refine wp_region_later Try.mixed (by kernel_rfl) ?_
      repeat (first | go_big_quiet_step (first | (go_at_call 21; exact Calls.later_of (cV _ _ _ (sF'.mono (below_later _ _)))) | (go_at_call 24; exact Calls.later_of (cR _ _ _ (sF'.mono (below_later _ _))))) | quiet_step (first | (go_at_call 21; exact Calls.later_of (cV _ _ _ (sF'.mono (below_later _ _)))) | (go_at_call 24; exact Calls.later_of (cR _ _ _ (sF'.mono (below_later _ _))))))
      refine wpQuiet_nil ?_
      intro w5 hb5
      replace hb5 := below_of_later hb5
      clear k0 k1 k2 k3 k4 cV cR
      go_wp2
      go_ret
      exact ⟨rfl, below2 hB' hb5⟩

set_option maxRecDepth 100000 in
theorem lifted (os : Os) (started : os.Started) (H : Type) (enc : TypeId × Value → H) :
    ReturnsInHanded {} Try.checked os 7 .any (Rows.frontierFullSpec.pre6 enc Try.prog Try.f7 Rows.frontierFullRow.domain false) (Rows.frontierFullSpec.post enc Try.prog Try.f7 false true false false) := by
  refine returnsInHanded_of_change (C := Try.checked) own started (by kernel_rfl) Try.func7
    (ChangeSpec.witness6 (enc := enc) (C := Try.checked) false ⟨#[], #[.int .u8 0, .int .u64 0], []⟩ 8 (by kernel_rfl) (by kernel_rfl) (by kernel_rfl) (by kernel_rfl)) ?_
  intro W base args ds gs before hval0 hW hcnd _
  have hval : ∀ (j : Nat) t v, Try.f7.params[j]? = some t → args[j]? = some v → Value.okWide Try.prog W .any base t v := hval0
  have hW' := hW
  obtain ⟨p, q, hA0, hV, rfl, hfz, hnd⟩ := hW
  have hA : DataW.TrodAll enc Try.prog W 0 (fun _ => true) true Try.f7.params.toList args.toList ds p := hA0
  rw [Try.params7] at hA hval
  obtain ⟨v0, vs0, d0, ds0, p0, q0, hargs, rfl, rfl, h0, r0⟩ := trodAll_cons hA
  obtain ⟨v1, vs1, d1, ds1, p1, q1, rfl, rfl, rfl, h1, r1⟩ := trodAll_cons r0
  obtain ⟨rfl, rfl, rfl⟩ := trodAll_nil r1
  obtain rfl : args = #[v0, v1] := by cases args; simp_all
  obtain ⟨rfl, rfl⟩ := trodVars_none hV
  obtain ⟨a0, rfl, rfl, rfl, w0⟩ := open_int Try.underlying5 (hval 0 5 v0 rfl rfl) h0
  obtain ⟨a1, rfl, rfl, rfl, w1⟩ := open_int Try.underlying30 (hval 1 30 v1 rfl rfl) h1
  clear hA0 hval0
  simp only [List.append_nil] at hW'
  refine (walk a0 a1 W w0 w1).mono fun e W' ⟨he, hg⟩ => ?_
  subst he
  exact ⟨_, rfl, post_of_below (pv := []) hW' (fun _ _ _ => (trodAll_cons_mk (shut_bool Try.underlying4 _) trodAll_mk0))
    (fun sp _ hsp => by subst hsp; exact (trodAll_cons_mk (shut_int Try.underlying5 w0) (trodAll_cons_mk (shut_int Try.underlying30 w1) trodAll_mk0))) (fun _ _ => rfl) (by simp) hg⟩

theorem closed : joinedFacts Try.prog 7 Try.f7 Rows.frontierFullSpec Rows.frontierFullRow = true := by
  unfold joinedFacts
  rw [Try.mayEnter, Try.liftsFinal, Try.make]
  kernel_rfl

theorem proved : Rows.FrontierFullSaid :=
  OpenClaim.holds_of_wide 7 Try.f7 rfl rfl rfl rfl rfl rfl rfl ⟨rfl, rfl, rfl, rfl, rfl⟩ rfl rfl rfl rfl rfl (by kernel_rfl) Try.func7 closed
    (of_decide_eq_true (by kernel_rfl)) (by unfold Func.isWrapper; first | (rw [if_pos (by decide +kernel)]; kernel_rfl) | (rw [if_neg (by decide +kernel)]; exact ⟨rfl, rfl⟩))
    (fun os started H enc _ => lifted os started H enc)
#print axioms proved
end frontierFull
end Go.Proofs.Ythkdaoomnfgooaa
