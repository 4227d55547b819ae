/- TopTree: After any appends and truncations, the log, the frontier of the same leaves and the tree that is computed from all its places have the same root; the paths of all leaves lead to it, and another leaf with the same path does not, unless two different pairs have the same node. -/
import Derived.Test.YthkdaoomnfgooaaTopB
namespace Go.Proofs.Ythkdaoomnfgooaa
open Go.ChangeShapes Go.WideShapes Go.ChangeAt Go.RowKit
namespace topTree

set_option maxRecDepth 10000 in
set_option maxHeartbeats 8000000 in
theorem walk (d : Int) (ad : Option Addr) (cap : Nat) (ops : List (Bool × Int × Int)) (other : Int) (w : World) (_ : (Lit.int .i64 d).wf = true) (S : OpP3 w ad cap ops) (ho : (Lit.int .u64 other).wf = true) :
    Calls Try.prog 18 #[.int .i64 d, .slice ad ops.length cap, .int .u64 other] w fun e w' => e = .returned (.bool true) ∧ Below w.heap.size w w' := by
  have hob := wf_u64 ho
  clear ho
  by_cases hd1 : d < 1
  · clear S hob
    go_enter Try.func18, Try.ntmps18
    go_wp2_with fail
    refine (awakeTop _).mono ?_
    rintro ew1 w1 ⟨rfl, hb1⟩
    go_wp2_with fail
    refine (awakeTop _).mono ?_
    rintro ew2 w2 ⟨rfl, hb2⟩
    go_wp2
    go_ret
    exact ⟨rfl, below2 hb1 hb2⟩
  by_cases hd4 : 4 < d
  · have hd1' : 1 ≤ d := by omega
    clear S hob
    go_enter Try.func18, Try.ntmps18
    go_wp2_with fail
    refine (awakeTop _).mono ?_
    rintro ew1 w1 ⟨rfl, hb1⟩
    go_wp2_with fail
    refine (awakeTop _).mono ?_
    rintro ew2 w2 ⟨rfl, hb2⟩
    go_wp2
    go_ret
    exact ⟨rfl, below2 hb1 hb2⟩
  obtain ⟨n, rfl⟩ := Int.eq_ofNat_of_zero_le (show 0 ≤ d by omega)
  have hn1 : (1 : Int) ≤ n := by omega
  have hn4 : (n : Int) ≤ 4 := by omega
  by_cases h24 : 24 < ops.length
  · have h24' : (24 : Int) < ops.length := by omega
    clear S hob
    go_enter Try.func18, Try.ntmps18
    go_wp2_with fail
    refine (awakeTop _).mono ?_
    rintro ew1 w1 ⟨rfl, hb1⟩
    go_wp2_with fail
    refine (awakeTop _).mono ?_
    rintro ew2 w2 ⟨rfl, hb2⟩
    go_wp2
    go_ret
    exact ⟨rfl, below2 hb1 hb2⟩
  have h24' : (ops.length : Int) ≤ 24 := by omega
  have h1 : 1 ≤ n := by omega
  have h2 : n ≤ 12 := by omega
  have hs := S.s
  have hsw := S.w
  obtain ⟨p1, p2⟩ := pow_le12 h2
  have epow : ((2 : Int) ^ n) = ((2 ^ n : Nat) : Int) := (Int.natCast_pow 2 _).symm
  obtain ⟨M2, hM2⟩ : ∃ M2 : Nat, M2 = 2 ^ n := ⟨_, rfl⟩
  have hwp : IntKind.i64.wrap ((2 : Int) ^ n) = M2 := by rw [epow, ← hM2, IntKind.wrap_i64]; omega
  replace hM2 := hide hM2
  have hbig : Hid (big = 18446744069414584321) := hide rfl
  clear S hd1 hd4 h24 epow
  go_enter Try.func18, Try.ntmps18
  go_wp2_with fail
  refine (awakeTop _).mono ?_
  rintro ew1 w1 ⟨rfl, hb1⟩
  go_wp2_with fail
  refine (TNew_any n w1 h1 h2).mono ?_
  rintro e w2 ⟨bL, bV, vs0, rfl, T0, hB0⟩
  obtain ⟨base, hbase⟩ : ∃ base, base = w1.heap.size := ⟨_, rfl⟩
  rw [← hbase] at T0
  go_wp2_with fail
  have L0 := Lv.nil w2 base bV n vs0
  go_loopw [9, 54] (fun t9 t54 wr => ∃ (i : Nat) (vs : Nat → Value) (a : Option Addr) (c : Nat) (m : List Int), i ≤ ops.length ∧ t54 = .int .i64 i ∧ t9 = .slice a m.length c ∧ okL n m ∧ (LogS wr base bL bV n vs fun k => lev k m) ∧ Lv wr base bV n vs a c m ∧ Below w1.heap.size w1 wr) (fun _ t54 _ => ops.length - (intOf t54).toNat)
  case atStart => exact ⟨0, vs0, none, 0, [], by omega, rfl, rfl, nil_ok n, T0, L0, hB0⟩
  case round =>
    clear T0 L0 hB0
    obtain ⟨i, vs, a, c, m, hi, rfl, rfl, hok, T, L, hB⟩ := hrel
    have hm16 : m.length ≤ 4096 := by have := hok.1; have := hM2.out; omega
    have hbz : base ≤ wr.heap.size := by rw [hbase]; exact hB.size
    by_cases hlt : i < ops.length
    · have hlt' : (i : Int) < ops.length := by omega
      obtain ⟨b, off, rfl, _, hc⟩ := (hs.mono (below2 hb1 hB)) (by omega)
      obtain ⟨hc0, hc1, hc2⟩ := hc i hlt
      clear hc
      have hobo := hsw (ops.getD i (false, 0, 0)) (by rw [List.getD_eq_getElem?_getD, List.getElem?_eq_getElem hlt]; exact List.getElem_mem hlt)
      generalize ops.getD i (false, 0, 0) = o at *
      obtain ⟨cut, x, u⟩ := o
      simp only at hc0 hc1 hc2 hobo
      obtain ⟨hx, hu⟩ := hobo
      cases cut with
      | true =>
        obtain ⟨k, hk⟩ : ∃ k, k = u.toNat % (m.length + 1) := ⟨_, rfl⟩
        have hkm : k ≤ m.length := by have := Nat.mod_lt u.toNat (show 0 < m.length + 1 by omega); omega
        have hrem : u.tmod ((m.length : Int) + 1) = (k : Int) := by
          rw [Int.tmod_eq_emod_of_nonneg hu.1, hk]
          obtain ⟨u', rfl⟩ := Int.eq_ofNat_of_zero_le hu.1
          rw [Int.toNat_natCast, show ((m.length : Int) + 1) = ((m.length + 1 : Nat) : Int) by omega, ← Int.natCast_emod]
        have hne0 : ¬ ((m.length : Int) + 1 = 0) := by omega
        have cT := fun (W : World) h hz => TTruncate_any W base bL bV n vs m k h h1 h2 hm16 (okL_W hok) hz
        have hin : 0 ≤ (k : Int) ∧ (k : Int) ≤ m.length := by omega
        unfold tcutE tcutL at cT
        simp only [if_pos hin, Int.toNat_natCast] at cT
        have hokM : okL n (m.take k) := by have := cut_ok hok k; unfold tcutL at this; rw [if_pos hin, Int.toNat_natCast] at this; exact this
        have hkc : k ≤ c := Nat.le_trans hkm L.le
        have hkl : (m.take k).length = k := by rw [List.length_take]; omega
        have hwu : IntKind.i64.wrap u = u := by rw [IntKind.wrap_i64]; omega
        have hbW := (Below.refl wr.heap.size wr).alloc (Nat.le_refl _) (.cells #[.bool true, .int .u64 x, .int .u8 u] 78)
        have hBW := below2 hB hbW
        replace hk := hide hk
        clear hx hin
        go_wp2_with fail
        generalize wr.alloc (.cells #[.bool true, .int .u64 x, .int .u8 u] 78) = W at *
        refine (cT W (T.mono hbW) (Nat.le_trans hbz hbW.size)).mono ?_
        rintro e wq ⟨rfl, vsM, TM, i5, k5⟩
        have L5 := (L.mono hbW).keep k5 i5
        have LM := L5.cut hkm
        have hBM := k5.below hBW (fun i hi => by have := T.low i hi; omega) hBW.size
        obtain ⟨M, hM⟩ : ∃ M, M = m.take k := ⟨_, rfl⟩
        rw [← hM] at TM LM hokM hkl
        have hMc : M.length ≤ c := by omega
        clear cT T L L5 i5 k5 hbW hBW hB hbz hok hM hm16 hkc hkm hk hc0 hc1 hc2
        subst hkl
        have cN := New_any n wq
        rw [(newL_nat h1 h2).1, (newL_nat h1 h2).2] at cN
        have hMb : ∀ x ∈ M, x < big := fun x hx => (hokM.2 x hx).2
        have hMW := okL_W hokM
        have hM16 : M.length ≤ 4096 := Nat.le_trans hokM.1 (pow_le12 h2).2
        have cA : ∀ (i : Nat), i < M.length → ∀ (ad : Option Addr) (cap : Nat) (W : World), Sl W .u64 ad (fro n (M.take i)) → Calls Try.prog 32 #[.agg #[.int .i64 n, .int .i64 i, .slice ad (fro n (M.take i)).length cap], .int .u64 (M.getD i 0)] W (RetA W n (i + 1) (fro n (M.take (i + 1))) 0) := by
          intro i hi ad cap W hs
          have hti : (M.take i).length = i := by rw [List.length_take]; omega
          have := Append_any n i (M.getD i 0) ad cap (fro n (M.take i)) W (hMW.get hi) hs (fro_W n _ fun x hx => hMW x (List.mem_of_mem_take hx)) (by rw [fro_len]; omega) (by omega)
          have hap := fro_append (x := M.getD i 0) (l := M.take i) h1 h2 (by rw [hti]; have := hokM.1; omega) (fun x hx => hMb x (List.mem_of_mem_take hx)) (hMb _ (getD_mem hi))
          rw [← take_succ_getD M 0 hi, hti] at hap
          rw [hap.1, hap.2.1, hap.2.2.1, hap.2.2.2] at this
          exact this
        have cF := fun (ad : Option Addr) (cap : Nat) (W : World) hs => Root_any n M.length ad cap (fro n M) W hs (fro_W n _ hMW) (by rw [fro_len]; omega) (by omega)
        rw [froot_fro' h1 h2 hokM.1 hMb, ← dig_top hokM.1] at cF
        have cV := fun (W : World) (hs : Sl W .u64 a M) => Naive_any n a (M.length) M W hs hMW h2 hokM.1
        rw [← dig_top hokM.1] at cV
        have cR := fun (W : World) h => TRoot_any W base bL bV n vsM M h h1 h2
        have cC := fun (W : World) (h : LogS W base bL bV n vsM fun k => lev k M) => Count_any W base bL bV n vsM _ h h1
        simp only [lev_zero] at cC
        generalize dig n 0 M = R at *
        have hRR : (R != R) = false := by simp
        have hll : ((M.length : Int) != (M.length : Int)) = false := by simp
        obtain ⟨G, hG⟩ : ∃ G : Nat → List Int, G = fun i => fro n (M.take i) := ⟨_, rfl⟩
        have hGe : ∀ i, fro n (M.take i) = G i := fun i => by rw [hG]
        have hG0 : fro n [] = G 0 := hGe 0
        have hGl : fro n M = G M.length := by rw [← hGe, List.take_length]
        rw [hG0] at cN
        simp only [hGe] at cA
        rw [hGl] at cF
        clear hG hGe hG0 hGl hMW hMb
        go_wp2_with fail
        refine cN.mono ?_
        rintro e w13 ⟨v13, rfl, o3, hb3⟩
        obtain ⟨a3, c3, rfl, _, _, _⟩ := Own.sl o3
        clear cN
        go_wp2_with fail
        have gf : Blk (w13.alloc (.cells #[.int .i64 n, .int .i64 0, .slice a3 (G 0).length c3] 28)) w13.heap.size #[.int .i64 n, .int .i64 0, .slice a3 (G 0).length c3] 28 := Blk.newAt rfl
        have B0 := hb3.alloc hb3.size (.cells #[.int .i64 n, .int .i64 0, .slice a3 (G 0).length c3] 28)
        have O0 := o3.alloc (.cells #[.int .i64 n, .int .i64 0, .slice a3 (G 0).length c3] 28)
        have hbs := hb3.size
        clear hb3 o3
        generalize w13.heap.size = b14 at *
        go_loopw [99] (fun t99 wr => ∃ j : Nat, j ≤ M.length ∧ t99 = .int .i64 j ∧ Below wq.heap.size wq wr ∧ ∃ a c, Blk wr b14 #[.int .i64 n, .int .i64 j, .slice a (G j).length c] 28 ∧ Own wr wq.heap.size 30 .u64 (.slice a (G j).length c) (G j)) (fun t99 _ => M.length - (intOf t99).toNat)
        case atStart => exact ⟨0, by omega, rfl, B0, _, _, gf, O0⟩
        case round =>
          clear B0 O0 gf
          obtain ⟨j, hj, rfl, hZ, af, cf, gf, ho⟩ := hrel
          obtain ⟨_, _, he, sF, _, _⟩ := Own.sl ho
          injection he with he1 he2 he3
          subst he1
          clear he2 he3
          by_cases hjl : j < M.length
          · have hjl' : (j : Int) < M.length := by omega
            have cA2 := cA j hjl
            obtain ⟨b, off, rfl, _, hc⟩ := (LM.s.mono hZ).get hjl
            obtain ⟨x3, hx3⟩ : ∃ x3, x3 = M.getD j 0 := ⟨_, rfl⟩
            rw [← hx3] at hc cA2
            obtain ⟨F', hF'⟩ : ∃ F', F' = G (j + 1) := ⟨_, rfl⟩
            rw [← hF'] at cA2
            clear cA cF cR cC cV hx3
            generalize G j = Fj at *
            have k0 := gf.cell (j := 0) (v := .int .i64 n) rfl; have k1 := gf.cell (j := 1) (v := .int .i64 j) rfl; have k2 := gf.cell (j := 2) (v := .slice af Fj.length cf) rfl
            replace hF' := hide hF'
            go_wp2_with fail
            refine (cA2 _ _ _ sF).mono ?_
            rintro e w14 ⟨v14, rfl, o4, hb4⟩
            obtain ⟨a4, c4, rfl, _, _, _⟩ := Own.sl o4
            replace o4 := o4.low hZ.size
            replace gf := gf.mono hb4
            replace hZ := below2 hZ hb4
            clear cA2 hb4 k0 k1 k2 sF ho hc
            have gf' := gf.alloc (.cells #[.int .i64 n, .int .i64 (j + 1), .slice a4 F'.length c4] 28)
            have hZ' := hZ.alloc hZ.size (.cells #[.int .i64 n, .int .i64 (j + 1), .slice a4 F'.length c4] 28)
            have o4' := o4.alloc (.cells #[.int .i64 n, .int .i64 (j + 1), .slice a4 F'.length c4] 28)
            have hn := own_ne_blk o4' gf' (by decide)
            have k0 := gf'.cell (j := 0) (v := .int .i64 n) rfl; have k1 := gf'.cell (j := 1) (v := .int .i64 j) rfl; have k2 := gf'.cell (j := 2) (v := .slice af Fj.length cf) rfl
            have f := gf'.free
            clear gf hZ o4
            go_wp2
            go_roundw
            case rel =>
              refine ⟨j + 1, by omega, by go_num, below_set3 hZ' hbs _ _ _, a4, c4, ?_, ?_⟩
              · rw [← hF'.out]
                exact Blk.set3 gf'
              · rw [← hF'.out]
                exact ((o4'.other hn _).other hn _).other hn _
            case measure => simp [intOf]; omega
          · obtain rfl : j = M.length := by omega
            clear cA ho hjl hj
            go_wp2_with fail
            refine (cV wr (LM.s.mono hZ)).mono ?_
            rintro e w15 ⟨rfl, hb15⟩
            replace hZ := below2 hZ hb15
            replace gf := gf.mono hb15
            replace sF := sF.mono hb15
            clear hb15 cV
            go_wp2_with fail
            refine (cC w15 (TM.mono hZ)).mono ?_
            rintro e w16 ⟨rfl, hb16⟩
            replace hZ := below2 hZ hb16
            replace gf := gf.mono hb16
            replace sF := sF.mono hb16
            clear hb16 cC
            go_wp2_with fail
            refine (cR w16 (TM.mono hZ)).mono ?_
            rintro e w17 ⟨rfl, hb17⟩
            replace hZ := below2 hZ hb17
            replace gf := gf.mono hb17
            replace sF := sF.mono hb17
            clear hb17 cR
            have k0 := gf.cell (j := 0) (v := .int .i64 n) rfl; have k1 := gf.cell (j := 1) (v := .int .i64 M.length) rfl; have k2 := gf.cell (j := 2) (v := .slice af (G M.length).length cf) rfl
            go_wp2_with fail
            refine (cF _ _ w17 sF).mono ?_
            rintro e w18 ⟨rfl, hb18⟩
            replace hZ := below2 hZ hb18
            clear hb18 cF k0 k1 k2 gf sF
            have T18 := TM.mono hZ
            have L18 := LM.mono hZ
            have B18 := below2 hBM hZ
            clear TM LM hBM hZ
            go_wp2
            go_roundw
            case rel => exact ⟨i + 1, vsM, a, (M.length), M, by omega, by go_num, rfl, hokM, T18, L18, B18⟩
            case measure => simp [intOf]; omega
      | false =>
        obtain ⟨y, hy⟩ : ∃ y, y = x % 18446744069414584321 := ⟨_, rfl⟩
        have hy0 : 0 ≤ y := by omega
        have hy1 : y < 18446744069414584321 := by omega
        have htm : x.tmod 18446744069414584321 = y := by rw [Int.tmod_eq_emod_of_nonneg hx.1]; omega
        have hyb : y < big := by rw [hbig.out]; exact hy1
        have hyW : 0 ≤ y ∧ y < 18446744073709551616 := by omega
        have cT := fun (W : World) h hz => TAppend_any W base bL bV n vs m y h h1 h2 hyW hok.1 (okL_W hok) hz
        have hokM := app_ok hok hy0
        unfold tappE tappL at cT
        unfold tappL at hokM
        simp only [if_pos hyb] at cT hokM
        have hbW := (Below.refl wr.heap.size wr).alloc (Nat.le_refl _) (.cells #[.bool false, .int .u64 x, .int .u8 u] 78)
        have hBW := below2 hB hbW
        by_cases hf : m.length = 2 ^ n
        · simp only [if_pos hf] at cT hokM
          have hnlt : (M2 : Int) ≤ m.length := by have := hM2.out; omega
          replace hf := hide hf
          clear hu hyb hyW hy
          go_wp2_with fail
          generalize wr.alloc (.cells #[.bool false, .int .u64 x, .int .u8 u] 78) = W at *
          refine (cT W (T.mono hbW) (Nat.le_trans hbz hbW.size)).mono ?_
          rintro e wq ⟨rfl, vsM, TM, i5, k5⟩
          have LM := (L.mono hbW).keep k5 i5
          have hBM := k5.below hBW (fun i hi => by have := T.low i hi; omega) hBW.size
          clear cT T L i5 k5 hbW hBW hB hbz hok hm16 hc0 hc1 hc2
          have cN := New_any n wq
          rw [(newL_nat h1 h2).1, (newL_nat h1 h2).2] at cN
          have hMb : ∀ x ∈ m, x < big := fun x hx => (hokM.2 x hx).2
          have hMW := okL_W hokM
          have hM16 : m.length ≤ 4096 := Nat.le_trans hokM.1 (pow_le12 h2).2
          have cA : ∀ (i : Nat), i < m.length → ∀ (ad : Option Addr) (cap : Nat) (W : World), Sl W .u64 ad (fro n (m.take i)) → Calls Try.prog 32 #[.agg #[.int .i64 n, .int .i64 i, .slice ad (fro n (m.take i)).length cap], .int .u64 (m.getD i 0)] W (RetA W n (i + 1) (fro n (m.take (i + 1))) 0) := by
            intro i hi ad cap W hs
            have hti : (m.take i).length = i := by rw [List.length_take]; omega
            have := Append_any n i (m.getD i 0) ad cap (fro n (m.take i)) W (hMW.get hi) hs (fro_W n _ fun x hx => hMW x (List.mem_of_mem_take hx)) (by rw [fro_len]; omega) (by omega)
            have hap := fro_append (x := m.getD i 0) (l := m.take i) h1 h2 (by rw [hti]; have := hokM.1; omega) (fun x hx => hMb x (List.mem_of_mem_take hx)) (hMb _ (getD_mem hi))
            rw [← take_succ_getD m 0 hi, hti] at hap
            rw [hap.1, hap.2.1, hap.2.2.1, hap.2.2.2] at this
            exact this
          have cF := fun (ad : Option Addr) (cap : Nat) (W : World) hs => Root_any n m.length ad cap (fro n m) W hs (fro_W n _ hMW) (by rw [fro_len]; omega) (by omega)
          rw [froot_fro' h1 h2 hokM.1 hMb, ← dig_top hokM.1] at cF
          have cV := fun (W : World) (hs : Sl W .u64 a m) => Naive_any n a c m W hs hMW h2 hokM.1
          rw [← dig_top hokM.1] at cV
          have cR := fun (W : World) h => TRoot_any W base bL bV n vsM m h h1 h2
          have cC := fun (W : World) (h : LogS W base bL bV n vsM fun k => lev k m) => Count_any W base bL bV n vsM _ h h1
          simp only [lev_zero] at cC
          generalize dig n 0 m = R at *
          have hRR : (R != R) = false := by simp
          have hll : ((m.length : Int) != (m.length : Int)) = false := by simp
          obtain ⟨G, hG⟩ : ∃ G : Nat → List Int, G = fun i => fro n (m.take i) := ⟨_, rfl⟩
          have hGe : ∀ i, fro n (m.take i) = G i := fun i => by rw [hG]
          have hG0 : fro n [] = G 0 := hGe 0
          have hGl : fro n m = G m.length := by rw [← hGe, List.take_length]
          rw [hG0] at cN
          simp only [hGe] at cA
          rw [hGl] at cF
          clear hG hGe hG0 hGl hMW hMb
          go_wp2_with fail
          refine cN.mono ?_
          rintro e w13 ⟨v13, rfl, o3, hb3⟩
          obtain ⟨a3, c3, rfl, _, _, _⟩ := Own.sl o3
          clear cN
          go_wp2_with fail
          have gf : Blk (w13.alloc (.cells #[.int .i64 n, .int .i64 0, .slice a3 (G 0).length c3] 28)) w13.heap.size #[.int .i64 n, .int .i64 0, .slice a3 (G 0).length c3] 28 := Blk.newAt rfl
          have B0 := hb3.alloc hb3.size (.cells #[.int .i64 n, .int .i64 0, .slice a3 (G 0).length c3] 28)
          have O0 := o3.alloc (.cells #[.int .i64 n, .int .i64 0, .slice a3 (G 0).length c3] 28)
          have hbs := hb3.size
          clear hb3 o3
          generalize w13.heap.size = b14 at *
          go_loopw [99] (fun t99 wr => ∃ j : Nat, j ≤ m.length ∧ t99 = .int .i64 j ∧ Below wq.heap.size wq wr ∧ ∃ a c, Blk wr b14 #[.int .i64 n, .int .i64 j, .slice a (G j).length c] 28 ∧ Own wr wq.heap.size 30 .u64 (.slice a (G j).length c) (G j)) (fun t99 _ => m.length - (intOf t99).toNat)
          case atStart => exact ⟨0, by omega, rfl, B0, _, _, gf, O0⟩
          case round =>
            clear B0 O0 gf
            obtain ⟨j, hj, rfl, hZ, af, cf, gf, ho⟩ := hrel
            obtain ⟨_, _, he, sF, _, _⟩ := Own.sl ho
            injection he with he1 he2 he3
            subst he1
            clear he2 he3
            by_cases hjl : j < m.length
            · have hjl' : (j : Int) < m.length := by omega
              have cA2 := cA j hjl
              obtain ⟨b, off, rfl, _, hc⟩ := (LM.s.mono hZ).get hjl
              obtain ⟨x3, hx3⟩ : ∃ x3, x3 = m.getD j 0 := ⟨_, rfl⟩
              rw [← hx3] at hc cA2
              obtain ⟨F', hF'⟩ : ∃ F', F' = G (j + 1) := ⟨_, rfl⟩
              rw [← hF'] at cA2
              clear cA cF cR cC cV hx3
              generalize G j = Fj at *
              have k0 := gf.cell (j := 0) (v := .int .i64 n) rfl; have k1 := gf.cell (j := 1) (v := .int .i64 j) rfl; have k2 := gf.cell (j := 2) (v := .slice af Fj.length cf) rfl
              replace hF' := hide hF'
              go_wp2_with fail
              refine (cA2 _ _ _ sF).mono ?_
              rintro e w14 ⟨v14, rfl, o4, hb4⟩
              obtain ⟨a4, c4, rfl, _, _, _⟩ := Own.sl o4
              replace o4 := o4.low hZ.size
              replace gf := gf.mono hb4
              replace hZ := below2 hZ hb4
              clear cA2 hb4 k0 k1 k2 sF ho hc
              have gf' := gf.alloc (.cells #[.int .i64 n, .int .i64 (j + 1), .slice a4 F'.length c4] 28)
              have hZ' := hZ.alloc hZ.size (.cells #[.int .i64 n, .int .i64 (j + 1), .slice a4 F'.length c4] 28)
              have o4' := o4.alloc (.cells #[.int .i64 n, .int .i64 (j + 1), .slice a4 F'.length c4] 28)
              have hn := own_ne_blk o4' gf' (by decide)
              have k0 := gf'.cell (j := 0) (v := .int .i64 n) rfl; have k1 := gf'.cell (j := 1) (v := .int .i64 j) rfl; have k2 := gf'.cell (j := 2) (v := .slice af Fj.length cf) rfl
              have f := gf'.free
              clear gf hZ o4
              go_wp2
              go_roundw
              case rel =>
                refine ⟨j + 1, by omega, by go_num, below_set3 hZ' hbs _ _ _, a4, c4, ?_, ?_⟩
                · rw [← hF'.out]
                  exact Blk.set3 gf'
                · rw [← hF'.out]
                  exact ((o4'.other hn _).other hn _).other hn _
              case measure => simp [intOf]; omega
            · obtain rfl : j = m.length := by omega
              clear cA ho hjl hj
              go_wp2_with fail
              refine (cV wr (LM.s.mono hZ)).mono ?_
              rintro e w15 ⟨rfl, hb15⟩
              replace hZ := below2 hZ hb15
              replace gf := gf.mono hb15
              replace sF := sF.mono hb15
              clear hb15 cV
              go_wp2_with fail
              refine (cC w15 (TM.mono hZ)).mono ?_
              rintro e w16 ⟨rfl, hb16⟩
              replace hZ := below2 hZ hb16
              replace gf := gf.mono hb16
              replace sF := sF.mono hb16
              clear hb16 cC
              go_wp2_with fail
              refine (cR w16 (TM.mono hZ)).mono ?_
              rintro e w17 ⟨rfl, hb17⟩
              replace hZ := below2 hZ hb17
              replace gf := gf.mono hb17
              replace sF := sF.mono hb17
              clear hb17 cR
              have k0 := gf.cell (j := 0) (v := .int .i64 n) rfl; have k1 := gf.cell (j := 1) (v := .int .i64 m.length) rfl; have k2 := gf.cell (j := 2) (v := .slice af (G m.length).length cf) rfl
              go_wp2_with fail
              refine (cF _ _ w17 sF).mono ?_
              rintro e w18 ⟨rfl, hb18⟩
              replace hZ := below2 hZ hb18
              clear hb18 cF k0 k1 k2 gf sF
              have T18 := TM.mono hZ
              have L18 := LM.mono hZ
              have B18 := below2 hBM hZ
              clear TM LM hBM hZ
              go_wp2
              go_roundw
              case rel => exact ⟨i + 1, vsM, a, c, m, by omega, by go_num, rfl, hokM, T18, L18, B18⟩
              case measure => simp [intOf]; omega
        · simp only [if_neg hf] at cT hokM
          obtain ⟨M, hM⟩ : ∃ M, M = m ++ [y] := ⟨_, rfl⟩
          rw [← hM] at cT hokM
          replace hM := hide hM
          have hnlt : (m.length : Int) < M2 := by have := hM2.out; have := hok.1; omega
          replace hf := hide hf
          clear hu hyb hyW hy
          go_wp2_with fail
          generalize wr.alloc (.cells #[.bool false, .int .u64 x, .int .u8 u] 78) = W at *
          refine (cT W (T.mono hbW) (Nat.le_trans hbz hbW.size)).mono ?_
          rintro e w5 ⟨rfl, vsM, T5, i5, k5⟩
          have L5 := (L.mono hbW).keep k5 i5
          have hB5 := k5.below hBW (fun i hi => by have := T.low i hi; omega) hBW.size
          have hbz5 : base ≤ w5.heap.size := by have := hB5.size; omega
          clear cT T L i5 k5 hbW hBW hB hbz hok hc0 hc1 hc2
          go_wp2_with (at_builtin; refine wpList_lv _ y rfl _ _ 22 rfl Try.underlying22 Try.infoU64 base bL bV n vsM (fun k => lev k M) a c m _ rfl rfl (by simp) L5 T5 hm16 hbz5 M hM.out ?_; intro A C wq TM LM b6 z6; refine Hold.mk ?_)
          refine Hold.go ?_
          have hBM : Below w1.heap.size w1 wq := hB5.trans (by rw [← hbase]; exact b6)
          clear L5 T5 hB5 hbz5 b6 z6 hm16
          have cN := New_any n wq
          rw [(newL_nat h1 h2).1, (newL_nat h1 h2).2] at cN
          have hMb : ∀ x ∈ M, x < big := fun x hx => (hokM.2 x hx).2
          have hMW := okL_W hokM
          have hM16 : M.length ≤ 4096 := Nat.le_trans hokM.1 (pow_le12 h2).2
          have cA : ∀ (i : Nat), i < M.length → ∀ (ad : Option Addr) (cap : Nat) (W : World), Sl W .u64 ad (fro n (M.take i)) → Calls Try.prog 32 #[.agg #[.int .i64 n, .int .i64 i, .slice ad (fro n (M.take i)).length cap], .int .u64 (M.getD i 0)] W (RetA W n (i + 1) (fro n (M.take (i + 1))) 0) := by
            intro i hi ad cap W hs
            have hti : (M.take i).length = i := by rw [List.length_take]; omega
            have := Append_any n i (M.getD i 0) ad cap (fro n (M.take i)) W (hMW.get hi) hs (fro_W n _ fun x hx => hMW x (List.mem_of_mem_take hx)) (by rw [fro_len]; omega) (by omega)
            have hap := fro_append (x := M.getD i 0) (l := M.take i) h1 h2 (by rw [hti]; have := hokM.1; omega) (fun x hx => hMb x (List.mem_of_mem_take hx)) (hMb _ (getD_mem hi))
            rw [← take_succ_getD M 0 hi, hti] at hap
            rw [hap.1, hap.2.1, hap.2.2.1, hap.2.2.2] at this
            exact this
          have cF := fun (ad : Option Addr) (cap : Nat) (W : World) hs => Root_any n M.length ad cap (fro n M) W hs (fro_W n _ hMW) (by rw [fro_len]; omega) (by omega)
          rw [froot_fro' h1 h2 hokM.1 hMb, ← dig_top hokM.1] at cF
          have cV := fun (W : World) (hs : Sl W .u64 A M) => Naive_any n A C M W hs hMW h2 hokM.1
          rw [← dig_top hokM.1] at cV
          have cR := fun (W : World) h => TRoot_any W base bL bV n vsM M h h1 h2
          have cC := fun (W : World) (h : LogS W base bL bV n vsM fun k => lev k M) => Count_any W base bL bV n vsM _ h h1
          simp only [lev_zero] at cC
          generalize dig n 0 M = R at *
          have hRR : (R != R) = false := by simp
          have hll : ((M.length : Int) != (M.length : Int)) = false := by simp
          obtain ⟨G, hG⟩ : ∃ G : Nat → List Int, G = fun i => fro n (M.take i) := ⟨_, rfl⟩
          have hGe : ∀ i, fro n (M.take i) = G i := fun i => by rw [hG]
          have hG0 : fro n [] = G 0 := hGe 0
          have hGl : fro n M = G M.length := by rw [← hGe, List.take_length]
          rw [hG0] at cN
          simp only [hGe] at cA
          rw [hGl] at cF
          clear hG hGe hG0 hGl hMW hMb
          go_wp2_with fail
          refine cN.mono ?_
          rintro e w13 ⟨v13, rfl, o3, hb3⟩
          obtain ⟨a3, c3, rfl, _, _, _⟩ := Own.sl o3
          clear cN
          go_wp2_with fail
          have gf : Blk (w13.alloc (.cells #[.int .i64 n, .int .i64 0, .slice a3 (G 0).length c3] 28)) w13.heap.size #[.int .i64 n, .int .i64 0, .slice a3 (G 0).length c3] 28 := Blk.newAt rfl
          have B0 := hb3.alloc hb3.size (.cells #[.int .i64 n, .int .i64 0, .slice a3 (G 0).length c3] 28)
          have O0 := o3.alloc (.cells #[.int .i64 n, .int .i64 0, .slice a3 (G 0).length c3] 28)
          have hbs := hb3.size
          clear hb3 o3
          generalize w13.heap.size = b14 at *
          go_loopw [99] (fun t99 wr => ∃ j : Nat, j ≤ M.length ∧ t99 = .int .i64 j ∧ Below wq.heap.size wq wr ∧ ∃ a c, Blk wr b14 #[.int .i64 n, .int .i64 j, .slice a (G j).length c] 28 ∧ Own wr wq.heap.size 30 .u64 (.slice a (G j).length c) (G j)) (fun t99 _ => M.length - (intOf t99).toNat)
          case atStart => exact ⟨0, by omega, rfl, B0, _, _, gf, O0⟩
          case round =>
            clear B0 O0 gf
            obtain ⟨j, hj, rfl, hZ, af, cf, gf, ho⟩ := hrel
            obtain ⟨_, _, he, sF, _, _⟩ := Own.sl ho
            injection he with he1 he2 he3
            subst he1
            clear he2 he3
            by_cases hjl : j < M.length
            · have hjl' : (j : Int) < M.length := by omega
              have cA2 := cA j hjl
              obtain ⟨b, off, rfl, _, hc⟩ := (LM.s.mono hZ).get hjl
              obtain ⟨x3, hx3⟩ : ∃ x3, x3 = M.getD j 0 := ⟨_, rfl⟩
              rw [← hx3] at hc cA2
              obtain ⟨F', hF'⟩ : ∃ F', F' = G (j + 1) := ⟨_, rfl⟩
              rw [← hF'] at cA2
              clear cA cF cR cC cV hx3
              generalize G j = Fj at *
              have k0 := gf.cell (j := 0) (v := .int .i64 n) rfl; have k1 := gf.cell (j := 1) (v := .int .i64 j) rfl; have k2 := gf.cell (j := 2) (v := .slice af Fj.length cf) rfl
              replace hF' := hide hF'
              go_wp2_with fail
              refine (cA2 _ _ _ sF).mono ?_
              rintro e w14 ⟨v14, rfl, o4, hb4⟩
              obtain ⟨a4, c4, rfl, _, _, _⟩ := Own.sl o4
              replace o4 := o4.low hZ.size
              replace gf := gf.mono hb4
              replace hZ := below2 hZ hb4
              clear cA2 hb4 k0 k1 k2 sF ho hc
              have gf' := gf.alloc (.cells #[.int .i64 n, .int .i64 (j + 1), .slice a4 F'.length c4] 28)
              have hZ' := hZ.alloc hZ.size (.cells #[.int .i64 n, .int .i64 (j + 1), .slice a4 F'.length c4] 28)
              have o4' := o4.alloc (.cells #[.int .i64 n, .int .i64 (j + 1), .slice a4 F'.length c4] 28)
              have hn := own_ne_blk o4' gf' (by decide)
              have k0 := gf'.cell (j := 0) (v := .int .i64 n) rfl; have k1 := gf'.cell (j := 1) (v := .int .i64 j) rfl; have k2 := gf'.cell (j := 2) (v := .slice af Fj.length cf) rfl
              have f := gf'.free
              clear gf hZ o4
              go_wp2
              go_roundw
              case rel =>
                refine ⟨j + 1, by omega, by go_num, below_set3 hZ' hbs _ _ _, a4, c4, ?_, ?_⟩
                · rw [← hF'.out]
                  exact Blk.set3 gf'
                · rw [← hF'.out]
                  exact ((o4'.other hn _).other hn _).other hn _
              case measure => simp [intOf]; omega
            · obtain rfl : j = M.length := by omega
              clear cA ho hjl hj
              go_wp2_with fail
              refine (cV wr (LM.s.mono hZ)).mono ?_
              rintro e w15 ⟨rfl, hb15⟩
              replace hZ := below2 hZ hb15
              replace gf := gf.mono hb15
              replace sF := sF.mono hb15
              clear hb15 cV
              go_wp2_with fail
              refine (cC w15 (TM.mono hZ)).mono ?_
              rintro e w16 ⟨rfl, hb16⟩
              replace hZ := below2 hZ hb16
              replace gf := gf.mono hb16
              replace sF := sF.mono hb16
              clear hb16 cC
              go_wp2_with fail
              refine (cR w16 (TM.mono hZ)).mono ?_
              rintro e w17 ⟨rfl, hb17⟩
              replace hZ := below2 hZ hb17
              replace gf := gf.mono hb17
              replace sF := sF.mono hb17
              clear hb17 cR
              have k0 := gf.cell (j := 0) (v := .int .i64 n) rfl; have k1 := gf.cell (j := 1) (v := .int .i64 M.length) rfl; have k2 := gf.cell (j := 2) (v := .slice af (G M.length).length cf) rfl
              go_wp2_with fail
              refine (cF _ _ w17 sF).mono ?_
              rintro e w18 ⟨rfl, hb18⟩
              replace hZ := below2 hZ hb18
              clear hb18 cF k0 k1 k2 gf sF
              have T18 := TM.mono hZ
              have L18 := LM.mono hZ
              have B18 := below2 hBM hZ
              clear TM LM hBM hZ
              go_wp2
              go_roundw
              case rel => exact ⟨i + 1, vsM, A, C, M, by omega, by go_num, rfl, hokM, T18, L18, B18⟩
              case measure => simp [intOf]; omega
    · have e : ops.length = i := by omega
      have cQ : ∀ (q : Nat), q < m.length → ∀ (W : World), (LogS W base bL bV n vs fun k => lev k m) → Calls Try.prog 46 #[.pointer (some ⟨bL, 0, none⟩), .int .i64 q] W (RetP W (tpath n m q) 0) := fun q hq W h => by
        have := TPath_any W base bL bV n vs m q h h1 h2 hm16
        have hk : leafOk m q = true := by unfold leafOk; rw [decide_eq_true]; omega
        unfold tpathV tpathE at this
        rw [hk, if_pos rfl, if_pos rfl, Int.toNat_natCast] at this
        exact this
      have hmb : ∀ x ∈ m, x < big := fun x hx => (hok.2 x hx).2
      have hmW := okL_W hok
      have cM : ∀ (q : Nat), q < m.length → ∀ (ad : Option Addr) (cap : Nat) (W : World), Sl W .u64 ad (tpath n m q) → Calls Try.prog 39 #[.int .u64 (m.getD q 0), .int .i64 q, .slice ad (tpath n m q).length cap] W fun e w' => e = .returned (.int .u64 (dig n 0 m)) ∧ Below W.heap.size W w' := fun q hq ad cap W h => by
        have := Climb_any (m.getD q 0) q ad cap (tpath n m q) W (hmW.get hq) (by omega) h (tpath_W hmW) (by rw [tpath_len]; omega)
        rw [fclimb_leaf h2 hq hok.1 hmb] at this
        exact this
      obtain ⟨y, hy⟩ : ∃ y, y = other % 18446744069414584321 := ⟨_, rfl⟩
      have hy0 : 0 ≤ y := by omega
      have hy1 : y < 18446744069414584321 := by omega
      have htm : other.tmod 18446744069414584321 = y := by rw [Int.tmod_eq_emod_of_nonneg hob.1]; omega
      have hyb : y < big := by rw [hbig.out]; exact hy1
      have hyW : 0 ≤ y ∧ y < 18446744073709551616 := by omega
      have cY : ∀ (q : Nat), q < m.length → ∀ (ad : Option Addr) (cap : Nat) (W : World), Sl W .u64 ad (tpath n m q) → Calls Try.prog 39 #[.int .u64 y, .int .i64 q, .slice ad (tpath n m q).length cap] W fun e w' => e = .returned (.int .u64 (climbL q (tpath n m q) y)) ∧ Below W.heap.size W w' := fun q hq ad cap W h => by
        have := Climb_any y q ad cap (tpath n m q) W hyW (by omega) h (tpath_W hmW) (by rw [tpath_len]; omega)
        have e2 : ((2 : Int) ^ n) = ((2 ^ n : Nat) : Int) := (Int.natCast_pow 2 n).symm
        unfold fclimb at this
        rw [tpath_len, if_pos ⟨h2, by omega, by have := hok.1; omega, hyb, tpath_big hmb⟩, Int.toNat_natCast] at this
        rw [tpath_len]
        exact this
      have cK : ∀ (q : Nat), q < m.length → ∀ (ad : Option Addr) (cap : Nat) (W : World), Sl W .u64 ad (tpath n m q) → Calls Try.prog 55 #[.int .u64 (m.getD q 0), .int .u64 y, .int .i64 q, .slice ad (tpath n m q).length cap] W fun e w' => e = .returned (.bool (clashL q (tpath n m q) (m.getD q 0) y)) ∧ Below W.heap.size W w' := fun q hq ad cap W h =>
        treeClash_any (m.getD q 0) y q ad cap (tpath n m q) W (hmW.get hq) hyW h (tpath_W hmW) (by rw [tpath_len]; omega)
      have hcl : ∀ q, q < m.length → climbL q (tpath n m q) y = dig n 0 m → ¬ y = m.getD q 0 → clashL q (tpath n m q) (m.getD q 0) y = true := fun q hq h hne =>
        clash_of _ _ _ _ (by rw [h]; exact climb_leaf hq hok.1) (fun e => hne e.symm)
      have cR := fun (W : World) h => TRoot_any W base bL bV n vs m h h1 h2
      have hPl : ∀ q, ((tpath n m q).length : Int) = (n : Int) := fun q => by rw [tpath_len]
      generalize dig n 0 m = R at *
      have hRR : (R != R) = false := by simp
      have hRe : (R == R) = true := by simp
      replace hcl := hide hcl
      clear hok hmW hmb hy hyb hyW hsw hs
      replace e := hide e
      go_wp2_with fail
      go_loopw [136] (fun t136 wr2 => ∃ q : Nat, q ≤ m.length ∧ t136 = .int .i64 q ∧ Below wr.heap.size wr wr2) (fun t136 _ => m.length - (intOf t136).toNat)
      case atStart => exact ⟨0, by omega, rfl, Below.refl _ _⟩
      case round =>
        obtain ⟨q, hq, rfl, hZ⟩ := hrel
        by_cases hql : q < m.length
        · have hql' : (q : Int) < m.length := by omega
          have cQ1 := cQ q hql
          have cM1 := cM q hql
          have cY1 := cY q hql
          have cK1 := cK q hql
          have hcl1 := hcl.out q hql
          have hP1 := hPl q
          obtain ⟨b, off, rfl, _, hc⟩ := (L.s.mono hZ).get hql
          obtain ⟨x, hx⟩ : ∃ x, x = m.getD q 0 := ⟨_, rfl⟩
          rw [← hx] at hc cM1 cK1 hcl1
          generalize tpath n m q = PL at *
          have hPn : ((PL.length : Int) != (n : Int)) = false := by rw [hP1]; simp
          generalize climbL q PL y = Y at *
          generalize clashL q PL x y = Kc at *
          replace hcl1 := hide hcl1
          clear hx cQ cM cY cK hPl hP1 hcl
          go_wp2_with fail
          refine (cQ1 wr (T.mono hZ)).mono ?_
          rintro e w5 ⟨v5, rfl, o5, hb5⟩
          replace hZ := below2 hZ hb5
          obtain ⟨a5, c5, rfl, s5, _, _⟩ := Own.sl o5
          clear hb5 o5 cQ1 hc
          go_wp2_with fail
          refine (cM1 _ _ w5 s5).mono ?_
          rintro e w6 ⟨rfl, hb6⟩
          replace hZ := below2 hZ hb6
          replace s5 := s5.mono hb6
          clear hb6 cM1
          go_wp2_with fail
          refine (cR w6 (T.mono hZ)).mono ?_
          rintro e w7 ⟨rfl, hb7⟩
          replace hZ := below2 hZ hb7
          replace s5 := s5.mono hb7
          clear hb7
          by_cases hyx : y = x
          · have hyx2 : (y != x) = false := by simp [hyx]
            replace hyx := hide hyx
            clear cY1 cK1 cR s5
            go_wp2
            go_roundw
            case rel => exact ⟨q + 1, by omega, by go_num, hZ⟩
            case measure => simp [intOf]; omega
          · have hyx2 : (y != x) = true := by simpa using hyx
            by_cases hYR : Y = R
            · have hYR2 : (Y == R) = true := by simp [hYR]
              have hKt : Kc = true := hcl1.out hYR hyx
              rw [hKt] at cK1
              replace hyx := hide hyx
              replace hYR := hide hYR
              clear hKt hcl1
              go_wp2_with fail
              refine (cY1 _ _ w7 s5).mono ?_
              rintro e w8 ⟨rfl, hb8⟩
              replace hZ := below2 hZ hb8
              replace s5 := s5.mono hb8
              clear hb8 cY1
              go_wp2_with fail
              refine (cR w8 (T.mono hZ)).mono ?_
              rintro e w9 ⟨rfl, hb9⟩
              replace hZ := below2 hZ hb9
              replace s5 := s5.mono hb9
              clear hb9 cR
              go_wp2_with fail
              refine (cK1 _ _ w9 s5).mono ?_
              rintro e w10 ⟨rfl, hb10⟩
              replace hZ := below2 hZ hb10
              clear hb10 cK1 s5
              go_wp2
              go_roundw
              case rel => exact ⟨q + 1, by omega, by go_num, hZ⟩
              case measure => simp [intOf]; omega
            · have hYR2 : (Y == R) = false := by simpa using hYR
              replace hyx := hide hyx
              replace hYR := hide hYR
              clear cK1 hcl1
              go_wp2_with fail
              refine (cY1 _ _ w7 s5).mono ?_
              rintro e w8 ⟨rfl, hb8⟩
              replace hZ := below2 hZ hb8
              clear hb8 cY1 s5
              go_wp2_with fail
              refine (cR w8 (T.mono hZ)).mono ?_
              rintro e w9 ⟨rfl, hb9⟩
              replace hZ := below2 hZ hb9
              clear hb9 cR
              go_wp2
              go_roundw
              case rel => exact ⟨q + 1, by omega, by go_num, hZ⟩
              case measure => simp [intOf]; omega
        · obtain rfl : q = m.length := by omega
          go_wp2
          go_ret
          exact ⟨rfl, below2 hb1 (below2 hB hZ)⟩

set_option maxRecDepth 100000 in
theorem lifted (os : Os) (started : os.Started) (H : Type) (enc : TypeId × Value → H) :
    ReturnsInHanded {} Try.checked os 18 .any (Rows.topTreeSpec.pre6 enc Try.prog Try.f18 Rows.topTreeRow.domain false) (Rows.topTreeSpec.post enc Try.prog Try.f18 false true false false) := by
  refine returnsInHanded_of_change (C := Try.checked) own started (by kernel_rfl) Try.func18
    (ChangeSpec.witness6 (enc := enc) (C := Try.checked) false ⟨#[], #[.int .i64 0, .slice none 0 0, .int .u64 0], []⟩ 8 (by kernel_rfl) (by kernel_rfl) (by kernel_rfl) (by kernel_rfl)) ?_
  intro W base args ds gs before hval0 hW hcnd _
  have hval : ∀ (j : Nat) t v, Try.f18.params[j]? = some t → args[j]? = some v → Value.okWide Try.prog W .any base t v := hval0
  have hW' := hW
  obtain ⟨p, q, hA0, hV, rfl, hfz, hnd⟩ := hW
  have hA : DataW.TrodAll enc Try.prog W 0 (fun _ => true) true Try.f18.params.toList args.toList ds p := hA0
  rw [Try.params18] at hA hval
  obtain ⟨v0, vs0, d0, ds0, p0, q0, hargs, rfl, rfl, h0, r0⟩ := trodAll_cons hA
  obtain ⟨v1, vs1, d1, ds1, p1, q1, rfl, rfl, rfl, h1, r1⟩ := trodAll_cons r0
  obtain ⟨v2, vs2, d2, ds2, p2, q2, rfl, rfl, rfl, h2, r2⟩ := trodAll_cons r1
  obtain ⟨rfl, rfl, rfl⟩ := trodAll_nil r2
  obtain rfl : args = #[v0, v1, v2] := by cases args; simp_all
  obtain ⟨rfl, rfl⟩ := trodVars_none hV
  have k1 := h1
  obtain ⟨a0, rfl, rfl, rfl, w0⟩ := open_int Try.underlying3 (hval 0 3 v0 rfl rfl) h0
  obtain ⟨ad1, cap1, ops1, rfl, S1⟩ := open_ops3 Try.underlying76 Try.underlying78 (by kernel_rfl) rfl rfl rfl (by kernel_rfl) (by kernel_rfl) (by kernel_rfl) Try.underlying4 Try.underlying30 Try.underlying5 h1 (hval 1 76 v1 rfl rfl)
  obtain ⟨a2, rfl, rfl, rfl, w2⟩ := open_int Try.underlying30 (hval 2 30 v2 rfl rfl) h2
  clear hA0 hval0
  simp only [List.append_nil] at hW'
  refine (walk a0 ad1 cap1 ops1 a2 W w0 S1 w2).mono fun e W' ⟨he, hg⟩ => ?_
  subst he
  exact ⟨_, rfl, post_of_below (pv := []) hW' (fun _ _ _ => (trodAll_cons_mk (shut_bool Try.underlying4 _) trodAll_mk0))
    (fun sp _ hsp => by subst hsp; exact (trodAll_cons_mk (shut_int Try.underlying3 w0) (trodAll_cons_mk (Below.trod Try.laidOut (by kernel_rfl) (of_decide_eq_true (by kernel_rfl)) k1 hg (fun x hx => hW'.lt x (by simp [hx]))) (trodAll_cons_mk (shut_int Try.underlying30 w2) trodAll_mk0)))) (fun _ _ => rfl) (by simp) hg⟩

theorem closed : joinedFacts Try.prog 18 Try.f18 Rows.topTreeSpec Rows.topTreeRow = true := by
  unfold joinedFacts
  rw [Try.mayEnter, Try.liftsFinal, Try.make]
  kernel_rfl

theorem proved : Rows.TopTreeSaid :=
  OpenClaim.holds_of_wide 18 Try.f18 rfl rfl rfl rfl rfl rfl rfl ⟨rfl, rfl, rfl, rfl, rfl⟩ rfl rfl rfl rfl rfl (by kernel_rfl) Try.func18 closed
    (of_decide_eq_true (by kernel_rfl)) (by unfold Func.isWrapper; first | (rw [if_pos (by decide +kernel)]; kernel_rfl) | (rw [if_neg (by decide +kernel)]; exact ⟨rfl, rfl⟩))
    (fun os started H enc _ => lifted os started H enc)
#print axioms proved
end topTree
end Go.Proofs.Ythkdaoomnfgooaa
