/- Gadgets: SameLinear, New, Input of the reference. -/
import Derived.Test.YtlgjnidphldiiaaGadP
import Derived.Laws.StructEq
namespace Go.Proofs.Ytlgjnidphldiiaa
open Go.RowKit

theorem Try.undTm : Try.prog.underlying 100 = some (.struct (Try.prog.fieldsOf 100)) := by kernel_rfl
theorem Try.stoodTm : Try.prog.stoodInHeld 100 = false := by kernel_rfl
theorem Try.guardTm : Try.prog.eqGuardType Try.prog.depth 100 = false := by kernel_rfl
theorem run_neq_term (a b c d : Int) (w : World) : (binOp .neq 100 (.agg #[.int .i64 a, .int .u64 b]) (.agg #[.int .i64 c, .int .u64 d])).run Try.prog w = .ok (.bool (!(decide ((a, b) = (c, d))))) w := by
  rw [run_neq_struct, run_equalIn_agg _ _ _ _ _ Try.undTm Try.stoodTm]
  simp [Program.fieldsOf, Try.underlying100, Op.eqFields, part, go_sem, Try.underlying3, Try.underlying22]
  by_cases h1 : a = c <;> by_cases h2 : b = d <;> simp [h1, h2]

set_option maxHeartbeats 2000000 in
theorem SameLin_any (x y : Lc) (w : World) (hx : LcOk w x) (hy : LcOk w y) (lx : x.l.length ≤ 1000000000) :
    Calls Try.prog 19 #[.slice x.ad x.l.length x.cap, .slice y.ad y.l.length y.cap] w fun e w' => e = .returned (.bool (decide (x.l = y.l))) ∧ Below w.heap.size w w' := by
  go_enter Try.func19, Try.ntmps19
  by_cases hne : x.l.length = y.l.length
  · have hz : ((x.l.length : Int) != y.l.length) = false := by simp; omega
    go_wp2_with fail
    clear hz
    replace hne := hide hne
    go_loopw [5] (fun t5 wr => ∃ i : Nat, i ≤ x.l.length ∧ t5 = .int .i64 i ∧ Below w.heap.size w wr ∧ Hid (x.l.take i = y.l.take i)) (fun t5 _ => x.l.length - (intOf t5).toNat)
    case atStart => exact ⟨0, Nat.zero_le _, rfl, Below.refl _ _, hide (by simp)⟩
    case round =>
      obtain ⟨i, hi, rfl, hb, heq⟩ := hrel
      by_cases hlt : i < x.l.length
      · have hlt' : i < y.l.length := by have := hne.out; omega
        obtain ⟨b1, o1, e1, _, p0, p1⟩ := (hx.sl.mono hb).get hlt
        obtain ⟨b2, o2, e2, _, s0, s1⟩ := (hy.sl.mono hb).get hlt'
        rw [e1, e2]
        have hnext : Hid (x.l.getD i (0, 0) = y.l.getD i (0, 0) → x.l.take (i + 1) = y.l.take (i + 1)) := hide fun e => by
          rw [take_succ_getD x.l (0, 0) hlt, take_succ_getD y.l (0, 0) hlt', heq.out, e]
        have hstop : Hid (¬ x.l.getD i (0, 0) = y.l.getD i (0, 0) → decide (x.l = y.l) = false) := hide fun e => by
          simp only [decide_eq_false_iff_not]
          intro e'
          exact e (by rw [e'])
        generalize x.l.getD i (0, 0) = t at *
        generalize y.l.getD i (0, 0) = u at *
        obtain ⟨t1, t2⟩ := t
        obtain ⟨u1, u2⟩ := u
        simp only at p0 p1 s0 s1
        replace p0 := cell_later' p0
        replace p1 := cell_later' p1
        replace s0 := cell_later' s0
        replace s1 := cell_later' s1
        have hi1 : (i : Int) < x.l.length := by omega
        have hi2 : (i : Int) < y.l.length := by omega
        have hi0 : (0 : Int) ≤ i := by omega
        have hwi : IntKind.i64.wrap (i : Int) = i := by rw [IntKind.wrap_i64]; omega
        clear heq
        have hgd := Try.guardTm
        have hnq := fun W => run_neq_term t1 t2 u1 u2 W
        by_cases htu : (t1, t2) = (u1, u2)
        · rw [decide_eq_true htu] at hnq
          replace htu := hide htu
          go_wp2_with fail
          refine wp_region_later Try.mixed (by kernel_rfl) ?_
          repeat (first | go_big_quiet_step (first | fail) | quiet_step (first | fail))
          refine wpQuiet_nil ?_
          intro w2 hb2
          replace hb2 := below_of_later hb2
          clear hnq hgd p0 p1 s0 s1 hstop
          go_wp2_with fail
          go_roundw
          case rel => exact ⟨i + 1, by omega, by go_num, below2 hb hb2, hide (hnext.out htu.out)⟩
          case measure => simp [intOf]; omega
        · rw [decide_eq_false htu] at hnq
          replace htu := hide htu
          go_wp2_with fail
          refine wp_region_later Try.mixed (by kernel_rfl) ?_
          repeat (first | go_big_quiet_step (first | fail) | quiet_step (first | fail))
          refine wpQuiet_nil ?_
          intro w2 hb2
          replace hb2 := below_of_later hb2
          clear hnq hgd p0 p1 s0 s1 hnext
          go_wp2
          go_ret
          exact ⟨ret_bool (hstop.out htu.out).symm, below2 hb hb2⟩
      · go_wp2
        go_ret
        have : x.l = y.l := by
          have h := heq.out
          have := hne.out
          rwa [List.take_of_length_le (by omega), List.take_of_length_le (by omega)] at h
        exact ⟨ret_bool (by simp [this]), hb⟩
  · have hz : ((x.l.length : Int) != y.l.length) = true := by simp; omega
    have hd : Hid (decide (x.l = y.l) = false) := hide (by
      simp only [decide_eq_false_iff_not]
      intro e; exact hne (by rw [e]))
    go_wp2
    go_ret
    exact ⟨ret_bool hd.out.symm, Below.refl _ _⟩
end Go.Proofs.Ytlgjnidphldiiaa

/- Gadgets: awake of chapter 20. -/
namespace Go.Proofs.Ytlgjnidphldiiaa
open Go.RowKit

theorem Bld.cells {w : World} {base b : Nat} {S : St} {A : Nat → Prop} (h : Bld w base b S A) : ∃ cs, Blk w b cs 104 ∧ cs[0]? = some (.int .u64 S.p) ∧ cs[2]? = some (.int .i64 S.pub) ∧ cs[5]? = some (.int .i64 S.sec) := by
  obtain ⟨vr, R, vh, H, h⟩ := h
  exact ⟨_, h.blk, rfl, rfl, rfl⟩
theorem bitsS_lens (S : St) (x : Lin) : ∀ k : Nat, (bitsS S x k).R.length = S.R.length + k ∧ (bitsS S x k).H.length = S.H.length + k
  | 0 => by simp [bitsS]
  | k + 1 => by
    obtain ⟨h1, h2⟩ := bitsS_lens S x k
    constructor
    · show ((bitsS S x k).R ++ [_]).length = _
      rw [List.length_append, h1]; rfl
    · show ((bitsS S x k).H ++ [_]).length = _
      rw [List.length_append, h2]; rfl
theorem gLess_lens (S : St) (x y : Lin) (n : Nat) : (gLess S x y n).1.R.length = S.R.length + n + 2 ∧ (gLess S x y n).1.vars = S.vars + n + 1 ∧ (gLess S x y n).1.p = S.p := by
  obtain ⟨h1, _⟩ := bitsS_lens S (lessX S.p n x y) (n + 1)
  refine ⟨?_, ?_, bitsS_p S _ (n + 1)⟩
  · show ((bitsS S (lessX S.p n x y) (n + 1)).R ++ [_]).length = _
    rw [List.length_append, h1]; simp; omega
  · show (bitsS S (lessX S.p n x y) (n + 1)).vars = _
    rw [bitsS_vars]; omega
theorem bitsS_sz (S : St) (x : Lin) (hx : x.length ≤ 10000000) (hR : SzR S.R) (hH : SzH S.H) : ∀ k : Nat, SzR (bitsS S x k).R ∧ SzH (bitsS S x k).H
  | 0 => ⟨hR, hH⟩
  | k + 1 => by
    obtain ⟨h1, h2⟩ := bitsS_sz S x hx hR hH k
    refine ⟨fun r hr => ?_, fun r hr => ?_⟩
    · rcases List.mem_append.1 (show r ∈ (bitsS S x k).R ++ [⟨nv (bitsS S x k), nv (bitsS S x k), nv (bitsS S x k)⟩] from hr) with h | h
      · exact h1 r h
      · rw [List.mem_singleton] at h; subst h; simp [nv]
    · rcases List.mem_append.1 (show r ∈ (bitsS S x k).H ++ [⟨3, x, [], (k : Int)⟩] from hr) with h | h
      · exact h2 r h
      · rw [List.mem_singleton] at h; subst h; exact ⟨hx, by simp⟩
theorem gLess_sz (S : St) (x y : Lin) (n : Nat) (hn : n ≤ 62) (hx : x.length + y.length ≤ 1000000) (hR : SzR S.R) (hH : SzH S.H) : SzR (gLess S x y n).1.R ∧ SzH (gLess S x y n).1.H := by
  have hl : (lessX S.p n x y).length ≤ 2000000 := by
    have h1 := addP_len S.p (addL S.p (keepT (0, fred S.p ((2 : Int) ^ n))) x) y (fneg S.p 1)
    have h2 := addP_len S.p (keepT (0, fred S.p ((2 : Int) ^ n))) x 1
    have h3 : (keepT (0, fred S.p ((2 : Int) ^ n))).length ≤ 1 := by unfold keepT; split <;> simp
    show (addP S.p (addL S.p (keepT (0, fred S.p ((2 : Int) ^ n))) x) y (fneg S.p 1)).length ≤ _
    unfold addL at h1 ⊢
    omega
  obtain ⟨h1, h2⟩ := bitsS_sz S (lessX S.p n x y) (by omega) hR hH (n + 1)
  refine ⟨fun r hr => ?_, h2⟩
  rcases List.mem_append.1 (show r ∈ (bitsS S (lessX S.p n x y) (n + 1)).R ++ [⟨subL (bitsS S (lessX S.p n x y) (n + 1)).p (bitsSum S (n + 1)) (lessX S.p n x y), [(0, 1)], []⟩] from hr) with h | h
  · exact h1 r h
  · rw [List.mem_singleton] at h
    subst h
    refine ⟨?_, by simp, by simp⟩
    have := addP_len (bitsS S (lessX S.p n x y) (n + 1)).p (bitsSum S (n + 1)) (lessX S.p n x y) (fneg (bitsS S (lessX S.p n x y) (n + 1)).p 1)
    rw [bitsSum_len] at this
    show (addP _ _ _ _).length ≤ _
    omega

set_option maxRecDepth 10000 in
set_option maxHeartbeats 8000000 in
theorem awake20 (w : World) : Calls Try.prog 14 #[] w fun e w' => e = .returned (.bool true) ∧ Below w.heap.size w w' := by
  have cN := New20_ok 17 1 1 w (by decide) (by decide)
  go_enter Try.func14, Try.ntmps14
  go_wp2_with fail
  refine cN.mono ?_
  rintro e w1 ⟨b, rfl, hB1, hb1⟩
  obtain ⟨cs, g, c0, c2, c5⟩ := hB1.cells
  have cI := fun i W hb => Input20_any b cs _ 17 1 1 i W (Blk.mono g hb) c0 c2 c5 (by decide) (by decide)
  clear cN
  go_wp2_with fail
  refine (cI 0 w1 (Below.refl _ _) (by decide)).mono ?_
  rintro e w2 ⟨x, rfl, ex, hx, hb2⟩
  rw [if_pos (by decide)] at ex
  go_wp2_with fail
  refine (cI 1 w2 hb2 (by decide)).mono ?_
  rintro e w3 ⟨y, rfl, ey, hy, hb3⟩
  rw [if_pos (by decide)] at ey
  have hb23 := below2 hb2 hb3
  replace hx := hx.mono hb3
  have lx : x.l.length = 1 := by rw [ex.out]; rfl
  have ly : y.l.length = 1 := by rw [ey.out]; rfl
  have hS0 : Bd (newS 17 1 1) 3 := ⟨by decide, by decide, by decide⟩
  have cM := Mul20_any w.heap.size b (newS 17 1 1) 3 x y w3 (hB1.mono hb23) (by decide) hS0 (by decide) hx hy (by omega) (by omega)
  replace lx := hide lx
  replace ly := hide ly
  obtain ⟨S1, hS1⟩ : ∃ S1, S1 = gMul (newS 17 1 1) x.l y.l := ⟨_, rfl⟩
  rw [← hS1] at cM
  have hp1 : S1.p = 17 := by rw [hS1]; rfl
  have hv1 : S1.vars = 4 := by rw [hS1]; rfl
  have hpub1 : S1.pub = 1 := by rw [hS1]; rfl
  have hsec1 : S1.sec = 1 := by rw [hS1]; rfl
  have hr1 : S1.R.length = 1 := by rw [hS1]; rfl
  have hh1 : S1.H.length = 1 := by rw [hS1]; rfl
  have hbd1 : Bd S1 5 := by rw [hS1]; exact hS0.mul
  have hz1 : SzR S1.R ∧ SzH S1.H := by
    rw [hS1]
    refine ⟨fun r hr => ?_, fun r hr => ?_⟩
    · rw [show (gMul (newS 17 1 1) x.l y.l).R = [⟨x.l, y.l, nv (newS 17 1 1)⟩] from rfl, List.mem_singleton] at hr
      subst hr
      exact ⟨by rw [lx.out]; decide, by rw [ly.out]; decide, by simp [nv]⟩
    · rw [show (gMul (newS 17 1 1) x.l y.l).H = [⟨1, x.l, y.l, 0⟩] from rfl, List.mem_singleton] at hr
      subst hr
      exact ⟨by rw [lx.out]; decide, by rw [ly.out]; decide⟩
  replace hS1 := hide hS1
  clear hS0
  go_wp2_with fail
  refine cM.mono ?_
  rintro e w4 ⟨v, rfl, ev, hv, hB4, k4⟩
  have hbW4 := below2 hb1 hb23
  replace hbW4 : Below w.heap.size w w4 := hbW4.trans k4.below
  have lv : v.l.length = 1 := by rw [ev.out]; rfl
  replace lv := hide lv
  replace hx := k4.lin hx
  clear cM hy hb23 hb2 hb3
  have cC := Circuit20_any w.heap.size b S1 w4 hB4 (by omega) (by omega) hz1.1 hz1.2
  replace hr1 := hide hr1
  replace hh1 := hide hh1
  replace hp1 := hide hp1
  replace hv1 := hide hv1
  replace hpub1 := hide hpub1
  replace hsec1 := hide hsec1
  go_wp2_with fail
  refine cC.mono ?_
  rintro e w5 ⟨ra, rc, R1, ha, hc, H1, rfl, _, _, eR, eH, hb5⟩
  have lR1 : R1.length = 1 := by have := congrArg List.length eR.out; rw [List.length_map, hr1.out] at this; exact this
  have lH1 : H1.length = 1 := by have := congrArg List.length eH.out; rw [List.length_map, hh1.out] at this; exact this
  rw [hv1.out, hp1.out, hpub1.out, hsec1.out, lR1, lH1]
  clear cC eR eH lR1 lH1
  go_wp2_with fail
  refine name_calls fun w6 hN => ?_
  have g4 : Blk w6 w5.heap.size #[.int .u64 17, .int .i64 1, .int .i64 4, .slice ra 1 rc, .int .i64 1, .slice ha 1 hc] 37 := by rw [hN]; exact Blk.newAt rfl
  have hb6 : Below w5.heap.size w5 w6 := by rw [hN]; exact (Below.refl _ _).alloc (Nat.le_refl _) _
  clear hN
  have hb46 := below2 hb5 hb6
  replace hB4 := hB4.mono hb46
  replace hv := hv.mono hb46
  replace hbW4 := below2 hbW4 hb46
  obtain ⟨cs4, g7, d0, d2, d5⟩ := hB4.cells
  rw [hp1.out] at d0
  rw [hpub1.out] at d2
  rw [hsec1.out] at d5
  have cI2 := Input20_any b cs4 _ 17 1 1 0 w6 g7 d0 d2 d5 (by decide) (by decide) (by decide)
  clear hb46 hb5 hb6 cI g c0 c2 c5 hx k4
  refine cI2.mono ?_
  rintro e w7 ⟨z, rfl, ez, hz, hb7⟩
  rw [if_pos (by decide)] at ez
  have lz : z.l.length = 1 := by rw [ez.out]; rfl
  replace g4 := g4.mono hb7
  replace hB4 := hB4.mono hb7
  replace hv := hv.mono hb7
  replace hbW4 := below2 hbW4 hb7
  have cL := Less20_any w.heap.size b S1 5 z v 3 w7 hB4 (by rw [hp1.out]; decide) hbd1 (by decide) hz hv (by omega) (by have := lv.out; omega) (by decide)
  obtain ⟨q1, q2, q3⟩ := gLess_lens S1 z.l v.l 3
  have q4 := gLess_sz S1 z.l v.l 3 (by decide) (by have := lv.out; omega) hz1.1 hz1.2
  have q5 : (gLess S1 z.l v.l 3).1.H.length = 5 := by
    have := (bitsS_lens S1 (lessX S1.p 3 z.l v.l) 4).2
    rw [hh1.out] at this
    exact this
  rw [hr1.out] at q1
  rw [hv1.out] at q2
  obtain ⟨S2, hS2⟩ : ∃ S2, S2 = (gLess S1 z.l v.l 3).1 := ⟨_, rfl⟩
  rw [← hS2] at cL q1 q2 q3 q4 q5
  replace hS2 := hide hS2
  replace lz := hide lz
  clear cI2 d0 d2 d5 g7 hb7
  go_wp2_with fail
  refine cL.mono ?_
  rintro e w8 ⟨_, rfl, _, _, hB8, k8⟩
  replace hv := k8.lin hv
  replace g4 := k8.typ _ _ _ g4 (by decide) (by decide) (by decide)
  replace hbW4 := hbW4.trans k8.below
  have cC2 := Circuit20_any w.heap.size b S2 w8 hB8 (by omega) (by omega) q4.1 q4.2
  replace q1 := hide q1
  replace q5 := hide q5
  replace q2 := hide q2
  clear cL hB4 q3 q4
  go_wp2_with fail
  refine cC2.mono ?_
  rintro e w9 ⟨ra2, rc2, R2, ha2, hc2, H2, rfl, _, _, eR, eH, hb9⟩
  have lR2 : R2.length = 6 := by have := congrArg List.length eR.out; rw [List.length_map, q1.out] at this; exact this
  have e8 : S2.vars = 8 := by rw [q2.out]; rfl
  rw [e8, lR2]
  clear cC2 eR eH lR2 e8 q1 q2 q5
  replace hv := hv.mono hb9
  replace g4 := g4.mono hb9
  replace hbW4 := below2 hbW4 hb9
  have ly4 := g4.lt
  go_wp2_with fail
  refine name_calls fun w10 hN => ?_
  have g5 : Blk w10 w9.heap.size #[.int .u64 S2.p, .int .i64 S2.pub, .int .i64 8, .slice ra2 6 rc2, .int .i64 S2.sec, .slice ha2 H2.length hc2] 37 := by rw [hN]; exact (Blk.newAt rfl).alloc _
  have gT : Blk w10 (w9.heap.size + 1) #[.int .i64 3, .int .u64 1] 100 := by rw [hN]; exact Blk.newAt (by simp)
  have hb10 : Below w9.heap.size w9 w10 := by rw [hN]; exact ((Below.refl _ _).alloc (Nat.le_refl _) _).alloc (by simp) _
  clear hN
  have cS := SameLin_any v ⟨some ⟨w9.heap.size + 1, 0, none⟩, 1, [(3, 1)]⟩ w10 (hv.mono hb10).ok (LinT.one gT (by decide) (by decide)).ok (by have := lv.out; omega)
  rw [decide_eq_true (show v.l = [(3, 1)] from ev.out)] at cS
  replace g4 := g4.mono hb10
  replace hbW4 := below2 hbW4 hb10
  clear hv hb10 gT
  refine cS.mono ?_
  rintro e w11 ⟨rfl, hb11⟩
  replace g4 := g4.mono hb11
  replace g5 := g5.mono hb11
  replace hbW4 := below2 hbW4 hb11
  have y2 := g4.cell (j := 2) (v := .int .i64 4) rfl
  have y3 := g4.cell (j := 3) (v := .slice ra 1 rc) rfl
  have y5 := g4.cell (j := 5) (v := .slice ha 1 hc) rfl
  have u2 := g5.cell (j := 2) (v := .int .i64 8) rfl
  have u3 := g5.cell (j := 3) (v := .slice ra2 6 rc2) rfl
  clear cS
  go_wp2
  go_ret
  exact ⟨rfl, hbW4⟩
end Go.Proofs.Ytlgjnidphldiiaa
