/- GadgetRange: Bits is satisfied exactly by numbers less than 2^n, and Boolean exactly by 0 and 1; Assert exactly by equal numbers. -/
import Derived.Test.YtlgjnidphldiiaaGadXZ
import Derived.Test.YtlgjnidphldiiaaGm
import Derived.Test.YtlgjnidphldiiaaFrame
namespace Go.Proofs.Ytlgjnidphldiiaa
open Go.ChangeShapes Go.WideShapes Go.ChangeAt Go.RowKit
namespace gadgetRange

theorem Sl.blk {w : World} {b : Nat} {cs : Array Value} {T : TypeId} {k : IntKind} (xs : List Int) (h : Blk w b cs T) (hc : cs = (xs.map (Value.int k)).toArray) : Sl w k (some ⟨b, 0, none⟩) xs := fun _ =>
  ⟨b, 0, rfl, h.lt, fun i hi => h.cell (by subst hc; simp [List.getD_eq_getElem?_getD, List.getElem?_eq_getElem hi])⟩
theorem rUpon_sl {P : Program} {f : FuncId} {args : Array Value} {W : World} {p : Later} {E : TypeId} {k : IntKind} {xs : List Int} (h : Calls P f args (later W p) (RetSl (later W p) E k xs)) :
    Rel.rUpon P (later W p) false (fun v w => Own w W.heap.size E k v xs) (.ok (.enter f args) (later W p)) :=
  ⟨rfl, h.mono fun _ _ ⟨v, he, hown, hb⟩ => ⟨v, he, hb, hown.low (below_later W p).size, fun h => by cases h⟩⟩
theorem rUpon_q {P : Program} {f : FuncId} {args : Array Value} {W : World} {p : Later} {v : Value} (h : Calls P f args (later W p) fun e w' => e = .returned v ∧ Below (later W p).heap.size (later W p) w') :
    Rel.rUpon P (later W p) false (fun u _ => u = v) (.ok (.enter f args) (later W p)) :=
  ⟨rfl, h.mono fun _ _ ⟨he, hb⟩ => ⟨v, he, hb, rfl, fun h => by cases h⟩⟩
def IsI2 (X Y : Int) (v : Value) (w : World) : Prop := ∃ b, v = .slice (some ⟨b, 0, none⟩) 2 2 ∧ Blk w b #[.int .u64 X, .int .u64 Y] 22
theorem IsI2.mono {X Y : Int} {v : Value} {w w' : World} (h : IsI2 X Y v w) (hb : Below w.heap.size w w') : IsI2 X Y v w' := by
  obtain ⟨b, h1, h2⟩ := h
  exact ⟨b, h1, h2.mono hb⟩
theorem rU_i2 {P : Program} (W : World) (p : Later) (X Y : Int) :
    Rel.rUpon P (later W p) false (IsI2 X Y) (.ok (.value (.slice (some ⟨(later W p).heap.size, 0, none⟩) 2 2)) ((later W p).alloc (.cells #[.int .u64 X, .int .u64 Y] 22))) :=
  ⟨(Below.refl _ _).alloc (Nat.le_refl _) _, ⟨_, rfl, Blk.new _ _ _⟩, fun h => by cases h⟩

set_option maxRecDepth 10000 in
set_option maxHeartbeats 32000000 in
theorem walk (p x y : Int) (w : World) (_ : (Lit.int .u64 p).wf = true) (hx : (Lit.int .u64 x).wf = true) (hy : (Lit.int .u64 y).wf = true) :
    Calls Try.prog 9 #[.int .u64 p, .int .u64 x, .int .u64 y] w fun e w' => e = .returned (.bool true) ∧ Below w.heap.size w w' := by
  have hx2 := wf_u64 hx
  have hy2 := wf_u64 hy
  clear hx hy
  have cR := fun W => sRight_any p 0 2 none 0 0 0 W
  obtain ⟨v, hv⟩ : ∃ v, v = vld p := ⟨_, rfl⟩
  rw [← hv] at cR
  simp only [show decide ((0 : Int) ≤ 4) = true from rfl, show decide ((2 : Int) ≤ 4) = true from rfl, show decide (((0 : Nat) : Int) ≤ 0) = true from rfl, Bool.and_true] at cR
  cases v with
  | false =>
    clear hv
    go_enter Try.func9, Try.ntmps9
    go_wp2_with fail
    refine name_calls fun W hN => ?_
    have g0 : Blk W w.heap.size #[.int .u64 p, .int .u8 0, .int .u8 2, .slice none 0 0] 66 := by rw [hN]; exact Blk.newAt rfl
    have hB : Below w.heap.size w W := by rw [hN]; exact (Below.refl _ _).alloc (Nat.le_refl _) _
    clear hN
    refine (awake20 W).mono ?_
    rintro e w1 ⟨rfl, hb1⟩
    replace hB := below2 hB hb1
    replace g0 := g0.mono hb1
    have k0 := g0.cell (j := 0) (v := .int .u64 p) rfl
    have k1 := g0.cell (j := 1) (v := .int .u8 0) rfl
    have k2 := g0.cell (j := 2) (v := .int .u8 2) rfl
    have k3 := g0.cell (j := 3) (v := .slice none 0 0) rfl
    go_wp2_with fail
    refine (cR w1).mono ?_
    rintro e w2 ⟨rfl, hb2⟩
    replace hB := below2 hB hb2
    go_wp2_with fail
    refine (awake20 w2).mono ?_
    rintro e w3 ⟨rfl, hb3⟩
    go_wp2
    go_ret
    exact ⟨rfl, below2 hB hb3⟩
  | true =>
    have hv' := hv.symm
    have hp := vld_pos hv'
    obtain ⟨d1, d2, d3⟩ := wid_bd hv'
    obtain ⟨m, hm⟩ : ∃ m, m = IntKind.u8.wrap (IntKind.u64.wrap (x + y)) := ⟨_, rfl⟩
    have hmb : 0 ≤ m ∧ m < 256 := by rw [hm, IntKind.wrap_u8]; omega
    obtain ⟨n, hn⟩ : ∃ n : Nat, (n : Int) = m % (wid p + 1) := ⟨(m % (wid p + 1)).toNat, by have := mod_lt' (show 0 < wid p + 1 by omega) m; omega⟩
    have hn6 : n ≤ 6 := by have := mod_lt' (show 0 < wid p + 1 by omega) m; omega
    have hnp : (2 : Int) ^ n < p := by
      have h3 : (2 : Int) ^ n ≤ 2 ^ ((wid p).toNat + 1) := by exact_mod_cast Nat.pow_le_pow_right (show 0 < 2 by decide) (show n ≤ (wid p).toNat + 1 by have := mod_lt' (show 0 < wid p + 1 by omega) m; omega)
      omega
    have cW := fun W => sWidth_any p 0 2 none 0 0 m W hv' hmb
    rw [← hn] at cW
    obtain ⟨X, hX⟩ : ∃ X, X = x % p := ⟨_, rfl⟩
    obtain ⟨Y, hY⟩ : ∃ Y, Y = y % p := ⟨_, rfl⟩
    have bX : 0 ≤ X ∧ X < p := by rw [hX]; exact mod_lt' (by omega) x
    have bY : 0 ≤ Y ∧ Y < p := by rw [hY]; exact mod_lt' (by omega) y
    have tX : x.tmod p = X := by rw [hX, Int.tmod_eq_emod_of_nonneg hx2.1]
    have tY : y.tmod p = Y := by rw [hY, Int.tmod_eq_emod_of_nonneg hy2.1]
    have q1 := range_bits hv' bX bY hnp hn6
    have q2 := range_bool hv' bX bY
    have q3 := range_eq hv' bX bY
    have hpow : (2 : Int) ^ n < 18446744073709551616 ∧ 0 < (2 : Int) ^ n := ⟨by omega, two_pos n⟩
    have hAI : AllW [X, Y] := fun z hz => by
      simp only [List.mem_cons, List.not_mem_nil, or_false] at hz
      rcases hz with rfl | rfl <;> omega
    replace q1 := hide q1
    replace q2 := hide q2
    replace q3 := hide q3
    replace hn := hide hn
    rw [hm] at cW
    replace hm := hide hm
    replace hX := hide hX
    replace hY := hide hY
    clear hv d1 d2 d3
    go_enter Try.func9, Try.ntmps9
    go_wp2_with fail
    refine name_calls fun W hN => ?_
    have g0 : Blk W w.heap.size #[.int .u64 p, .int .u8 0, .int .u8 2, .slice none 0 0] 66 := by rw [hN]; exact Blk.newAt rfl
    have hB : Below w.heap.size w W := by rw [hN]; exact (Below.refl _ _).alloc (Nat.le_refl _) _
    clear hN
    refine (awake20 W).mono ?_
    rintro e w1 ⟨rfl, hb1⟩
    replace hB := below2 hB hb1
    replace g0 := g0.mono hb1
    have k0 := g0.cell (j := 0) (v := .int .u64 p) rfl
    have k1 := g0.cell (j := 1) (v := .int .u8 0) rfl
    have k2 := g0.cell (j := 2) (v := .int .u8 2) rfl
    have k3 := g0.cell (j := 3) (v := .slice none 0 0) rfl
    go_wp2_with fail
    refine (cR w1).mono ?_
    rintro e w2 ⟨rfl, hb2⟩
    replace hB := below2 hB hb2
    replace g0 := g0.mono hb2
    clear k0 k1 k2 k3 cR hb1 hb2
    have k0 := g0.cell (j := 0) (v := .int .u64 p) rfl
    have k1 := g0.cell (j := 1) (v := .int .u8 0) rfl
    have k2 := g0.cell (j := 2) (v := .int .u8 2) rfl
    have k3 := g0.cell (j := 3) (v := .slice none 0 0) rfl
    go_wp2_with fail
    refine (cW w2).mono ?_
    rintro e w3 ⟨rfl, hb3⟩
    replace hB := below2 hB hb3
    replace g0 := g0.mono hb3
    clear k0 k1 k2 k3 cW hb3
    go_wp2_with fail
    refine wp_region_later Try.mixed (by kernel_rfl) ?_
    repeat (first | go_big_quiet_step (first | fail) | quiet_step (first | fail))
    refine wpQuiet_nil ?_
    intro w4 hb4
    replace hb4 := below_of_later hb4
    replace hB := below2 hB hb4
    replace g0 := g0.mono hb4
    clear hb4
    go_wp2_with fail
    go_loopw [36] (fun t36 wr => ∃ k : Nat, k ≤ 3 ∧ t36 = .int .i64 k ∧ Below w.heap.size w wr ∧ Blk wr w.heap.size #[.int .u64 p, .int .u8 0, .int .u8 2, .slice none 0 0] 66) (fun t36 _ => 3 - (intOf t36).toNat)
    case atStart => exact ⟨0, by omega, rfl, hB, g0⟩
    case round =>
      clear hB g0
      obtain ⟨k, hk, rfl, hB, g0⟩ := hrel
      have k0 := g0.cell (j := 0) (v := .int .u64 p) rfl
      have k1 := g0.cell (j := 1) (v := .int .u8 0) rfl
      have k2 := g0.cell (j := 2) (v := .int .u8 2) rfl
      have k3 := g0.cell (j := 3) (v := .slice none 0 0) rfl
      have cr := run0_any p 0 2 none 0 wr hv' (by decide)
      obtain hk4 | hk4 | hk4 | hk4 : k = 0 ∨ k = 1 ∨ k = 2 ∨ k = 3 := by omega
      · subst hk4
        clear hk
        go_wp2_with fail
        refine cr.mono ?_
        rintro e w1 ⟨b, lv, Ls, rfl, hB1, ow, hls, eLs, hb1⟩
        obtain ⟨va, vc, rfl, _⟩ := ow.sl
        have hz := hB.size
        replace hB := below2 hB hb1
        replace g0 := g0.mono hb1
        clear k0 k1 k2 k3 cr ow hls eLs hb1
        obtain ⟨cs, gb, h0, h2, h5⟩ := hB1.cells
        have cI := fun (i : Int) W hb hi => Input20_any b cs _ p 0 2 i W (Blk.mono gb hb) h0 h2 h5 hv' (by decide) hi
        go_wp2_with fail
        refine (cI 0 w1 (Below.refl _ _) (by decide)).mono ?_
        rintro e w2 ⟨s1, rfl, e1, l1, hb2⟩
        rw [if_pos (by decide)] at e1
        have ls1 : Hid (s1.l.length = 1) := hide (by rw [e1.out]; rfl)
        have hB2 := hB1.mono hb2
        have hbd : Bd (newS p 0 2) 3 := ⟨⟨(by decide : (0 : Int) ≤ 3), (by decide : (3 : Int) ≤ 3)⟩, (by decide : ((0 : Nat) : Int) ≤ 3), (by decide : ((0 : Nat) : Int) ≤ 3)⟩
        have cG := Bits20_any wr.heap.size b (newS p 0 2) 3 s1 n w2 hB2 hv' hbd (by decide) l1 (by have := ls1.out; omega) (by omega)
        clear cI h0 h2 h5 gb hB1
        go_wp2_with fail
        refine cG.mono ?_
        rintro e w3 ⟨bv, bLs, rfl, bo, _, _, hB3, k3⟩
        obtain ⟨ba, bc, rfl, _⟩ := bo.sl
        rw [show s1.l = [(1, 1)] from e1.out] at hB3
        replace g0 := k3.typ _ _ _ (g0.mono hb2) (by decide) (by decide) (by decide)
        replace hB := (below2 hB hb2).trans (k3.below.mono hz)
        clear k3 cG hbd l1 hB2 bo hb2
        obtain ⟨S', hS'⟩ : ∃ S', S' = gBits (newS p 0 2) [(1, 1)] n := ⟨_, rfl⟩
        obtain ⟨u1, u2, u3, u4, u5⟩ := q1.out
        rw [← hS'] at hB3 u1 u2 u3 u4 u5
        clear hS'
        have cC := circ_any wr.heap.size b S' [X, Y] p w3 hB3 u1 u2 u3 u4
        have hFW := fin_W u1
        generalize fin S' [X, Y] = F at *
        obtain ⟨ok, hok⟩ : ∃ ok, ok = Sat S' [X, Y] := ⟨_, rfl⟩
        rw [← hok] at cC u5
        replace hok := hide hok
        replace u5 := hide u5
        clear u1 u2 u3 u4 hB3
        go_wp2_with fail
        refine cC.mono ?_
        rintro e w4 ⟨pub, vars, ra, R, rc, sec, ha, H, hc, rfl, hR, hH, hC, hln, hF, hfl, hsat, hvb, hsw, hb4⟩
        have hBs : Hid (rowsSat p F R = decide (X < 2 ^ n)) := hide (by rw [Bool.eq_iff_iff, hsat.out, u5.out, decide_eq_true_eq])
        clear hsat u5 cC hok
        go_wp2_with fail
        refine name_world fun w5 hN => ?_
        have gC : Blk w5 w4.heap.size #[.int .u64 p, .int .i64 pub, .int .i64 vars, .slice ra R.length rc, .int .i64 sec, .slice ha H.length hc] 37 := by rw [hN]; exact Blk.newAt rfl
        have hb5 : Below w4.heap.size w4 w5 := by rw [hN]; exact (Below.refl _ _).alloc (Nat.le_refl _) _
        clear hN
        replace hR := hR.mono hb5
        replace hH := hH.mono hb5
        replace hB := below2 (below2 hB hb4) hb5
        replace g0 := (g0.mono hb4).mono hb5
        clear hb4 hb5
        have m0 := cell_later' (gC.cell (j := 0) (v := .int .u64 p) rfl); have m1 := cell_later' (gC.cell (j := 1) (v := .int .i64 pub) rfl); have m2 := cell_later' (gC.cell (j := 2) (v := .int .i64 vars) rfl); have m3 := cell_later' (gC.cell (j := 3) (v := .slice ra R.length rc) rfl); have m4 := cell_later' (gC.cell (j := 4) (v := .int .i64 sec) rfl); have m5 := cell_later' (gC.cell (j := 5) (v := .slice ha H.length hc) rfl)
        have cB := fun P => bounded_any p pub vars ra R rc sec ha H hc (later w5 P) (hR.mono (below_later _ _)) (hH.mono (below_later _ _)) hC.out
        have cS := fun a c W h1 h2 => rSat20_any p pub vars ra R rc a c F W h1 h2 hFW (cir_bd hC.out).1 hfl.out
        have cK := fun a W h1 h2 => Complete_any p pub vars ra R rc sec ha H hc a 2 [X, Y] W h1 h2 hAI hC.out hln.out
        rw [hF.out] at cK
        generalize rowsSat p F R = B at *
        refine Rel.wp_region_mix 13 [] [(9, IsI2 X Y), (10, fun v w => Own w w5.heap.size 22 .u64 v F), (11, fun v _ => v = .bool B)] Try.mixed (by kernel_rfl) (by kernel_rfl) ?_ ?_
        rotate_left
        simp only [List.take_succ_cons, List.take_zero, List.drop_succ_cons, List.drop_zero, List.map_cons, List.map_nil]
        repeat (first | (refine Rel.wpA_b (by rfl) ?_) | (refine Rel.wpA_step (by rfl) fun K hK => ?_; go_simp; first | (refine hK _ ?_; clear hK K) | (apply Exists.intro; refine ⟨fun _ => ?_, hK _ ?_⟩; (first | (go_at_call 33; exact cB _)); clear hK K)))
        refine Rel.wpA_nil ?_
        rotate_left
        · intro z hz v u u' h1 h2
          simp only [List.mem_cons, List.not_mem_nil, or_false] at hz
          rcases hz with rfl | rfl | rfl
          · exact IsI2.mono h1 h2
          · exact Own.mono h1 h2
          · exact h1
        refine Rel.wpB_step _ rfl rfl (fun p' hc' => ?_) (fun v9 => ?_)
        · refine rU_of' (fr := false) (r := .ok (.value (.slice (some ⟨(later w5 p').heap.size, 0, none⟩) 2 2)) ((later w5 p').alloc (.cells #[.int .u64 X, .int .u64 Y] 22))) (by kernel_rfl) (by kernel_rfl) ?_
          exact rU_i2 w5 p' X Y
        refine Rel.wpB_step _ rfl rfl (fun p' hc' => ?_) (fun v10 => ?_)
        · have h9 : IsI2 X Y v9 (later w5 p') := hc' _ (List.Mem.head _) (by kernel_rfl)
          obtain ⟨g9, rfl, gb9⟩ := h9
          refine rU_of' (fr := false) (r := .ok (.enter 35 #[.agg #[.int .u64 p, .int .i64 pub, .int .i64 vars, .slice ra R.length rc, .int .i64 sec, .slice ha H.length hc], .slice (some ⟨g9, 0, none⟩) 2 2]) (later w5 p')) (by kernel_rfl) (by kernel_rfl) ?_
          exact rUpon_sl (cK _ _ (hH.mono (below_later _ _)) (Sl.blk [X, Y] gb9 rfl))
        refine Rel.wpB_step _ rfl rfl (fun p' hc' => ?_) (fun v11 => ?_)
        · have h10 : Own (later w5 p') w5.heap.size 22 .u64 v10 F := hc' _ (List.Mem.tail _ (List.Mem.head _)) (by kernel_rfl)
          obtain ⟨a10, c10, rfl, sl10, _, _⟩ := Own.sl h10
          refine rU_of' (fr := false) (r := .ok (.enter 36 #[.agg #[.int .u64 p, .int .i64 pub, .int .i64 vars, .slice ra R.length rc], .slice a10 F.length c10]) (later w5 p')) (by kernel_rfl) (by kernel_rfl) ?_
          exact rUpon_q (cS _ _ _ (hR.mono (below_later _ _)) sl10)
        refine Rel.wpB_nil ?_
        intro p' hctx hfr
        simp only [List.nil_append, List.cons_append, List.mem_cons, List.not_mem_nil, or_false, forall_eq_or_imp, forall_eq] at hctx
        obtain ⟨_, _, rfl⟩ := hctx
        have hbl := below_later w5 p'
        clear hfr m0 m1 m2 m3 m4 m5 cB cS cK
        generalize later w5 p' = w6 at *
        replace g0 := g0.mono hbl
        replace hB := below2 hB hbl
        clear hbl hR hH gC
        have hBs2 : B = (decide (X < 2 ^ n)) := hBs.out
        generalize (decide (X < 2 ^ n)) = D at *
        subst hBs2
        go_wp2
        go_roundw
        case rel => exact ⟨1, by omega, by go_num, hB, g0⟩
        case measure => simp [intOf]
      · subst hk4
        clear hk
        go_wp2_with fail
        refine cr.mono ?_
        rintro e w1 ⟨b, lv, Ls, rfl, hB1, ow, hls, eLs, hb1⟩
        obtain ⟨va, vc, rfl, _⟩ := ow.sl
        have hz := hB.size
        replace hB := below2 hB hb1
        replace g0 := g0.mono hb1
        clear k0 k1 k2 k3 cr ow hls eLs hb1
        obtain ⟨cs, gb, h0, h2, h5⟩ := hB1.cells
        have cI := fun (i : Int) W hb hi => Input20_any b cs _ p 0 2 i W (Blk.mono gb hb) h0 h2 h5 hv' (by decide) hi
        go_wp2_with fail
        refine (cI 0 w1 (Below.refl _ _) (by decide)).mono ?_
        rintro e w2 ⟨s1, rfl, e1, l1, hb2⟩
        rw [if_pos (by decide)] at e1
        have ls1 : Hid (s1.l.length = 1) := hide (by rw [e1.out]; rfl)
        have hB2 := hB1.mono hb2
        have hbd : Bd (newS p 0 2) 3 := ⟨⟨(by decide : (0 : Int) ≤ 3), (by decide : (3 : Int) ≤ 3)⟩, (by decide : ((0 : Nat) : Int) ≤ 3), (by decide : ((0 : Nat) : Int) ≤ 3)⟩
        have cG := Boolean20_any wr.heap.size b (newS p 0 2) 3 s1 w2 hB2 hbd (by decide) l1 (by have := ls1.out; omega)
        clear cI h0 h2 h5 gb hB1
        go_wp2_with fail
        refine cG.mono ?_
        rintro e w3 ⟨rfl, hB3, k3⟩
        rw [show s1.l = [(1, 1)] from e1.out] at hB3
        replace g0 := k3.typ _ _ _ (g0.mono hb2) (by decide) (by decide) (by decide)
        replace hB := (below2 hB hb2).trans (k3.below.mono hz)
        clear k3 cG hbd l1 hB2 hb2
        obtain ⟨S', hS'⟩ : ∃ S', S' = gBool (newS p 0 2) [(1, 1)] := ⟨_, rfl⟩
        obtain ⟨u1, u2, u3, u4, u5⟩ := q2.out
        rw [← hS'] at hB3 u1 u2 u3 u4 u5
        clear hS'
        have cC := circ_any wr.heap.size b S' [X, Y] p w3 hB3 u1 u2 u3 u4
        have hFW := fin_W u1
        generalize fin S' [X, Y] = F at *
        obtain ⟨ok, hok⟩ : ∃ ok, ok = Sat S' [X, Y] := ⟨_, rfl⟩
        rw [← hok] at cC u5
        replace hok := hide hok
        replace u5 := hide u5
        clear u1 u2 u3 u4 hB3
        go_wp2_with fail
        refine cC.mono ?_
        rintro e w4 ⟨pub, vars, ra, R, rc, sec, ha, H, hc, rfl, hR, hH, hC, hln, hF, hfl, hsat, hvb, hsw, hb4⟩
        have hBs : Hid (rowsSat p F R = decide (X < 2)) := hide (by rw [Bool.eq_iff_iff, hsat.out, u5.out, decide_eq_true_eq])
        clear hsat u5 cC hok
        go_wp2_with fail
        refine name_world fun w5 hN => ?_
        have gC : Blk w5 w4.heap.size #[.int .u64 p, .int .i64 pub, .int .i64 vars, .slice ra R.length rc, .int .i64 sec, .slice ha H.length hc] 37 := by rw [hN]; exact Blk.newAt rfl
        have hb5 : Below w4.heap.size w4 w5 := by rw [hN]; exact (Below.refl _ _).alloc (Nat.le_refl _) _
        clear hN
        replace hR := hR.mono hb5
        replace hH := hH.mono hb5
        replace hB := below2 (below2 hB hb4) hb5
        replace g0 := (g0.mono hb4).mono hb5
        clear hb4 hb5
        have m0 := cell_later' (gC.cell (j := 0) (v := .int .u64 p) rfl); have m1 := cell_later' (gC.cell (j := 1) (v := .int .i64 pub) rfl); have m2 := cell_later' (gC.cell (j := 2) (v := .int .i64 vars) rfl); have m3 := cell_later' (gC.cell (j := 3) (v := .slice ra R.length rc) rfl); have m4 := cell_later' (gC.cell (j := 4) (v := .int .i64 sec) rfl); have m5 := cell_later' (gC.cell (j := 5) (v := .slice ha H.length hc) rfl)
        have cB := fun P => bounded_any p pub vars ra R rc sec ha H hc (later w5 P) (hR.mono (below_later _ _)) (hH.mono (below_later _ _)) hC.out
        have cS := fun a c W h1 h2 => rSat20_any p pub vars ra R rc a c F W h1 h2 hFW (cir_bd hC.out).1 hfl.out
        have cK := fun a W h1 h2 => Complete_any p pub vars ra R rc sec ha H hc a 2 [X, Y] W h1 h2 hAI hC.out hln.out
        rw [hF.out] at cK
        generalize rowsSat p F R = B at *
        refine Rel.wp_region_mix 13 [] [(9, IsI2 X Y), (10, fun v w => Own w w5.heap.size 22 .u64 v F), (11, fun v _ => v = .bool B)] Try.mixed (by kernel_rfl) (by kernel_rfl) ?_ ?_
        rotate_left
        simp only [List.take_succ_cons, List.take_zero, List.drop_succ_cons, List.drop_zero, List.map_cons, List.map_nil]
        repeat (first | (refine Rel.wpA_b (by rfl) ?_) | (refine Rel.wpA_step (by rfl) fun K hK => ?_; go_simp; first | (refine hK _ ?_; clear hK K) | (apply Exists.intro; refine ⟨fun _ => ?_, hK _ ?_⟩; (first | (go_at_call 33; exact cB _)); clear hK K)))
        refine Rel.wpA_nil ?_
        rotate_left
        · intro z hz v u u' h1 h2
          simp only [List.mem_cons, List.not_mem_nil, or_false] at hz
          rcases hz with rfl | rfl | rfl
          · exact IsI2.mono h1 h2
          · exact Own.mono h1 h2
          · exact h1
        refine Rel.wpB_step _ rfl rfl (fun p' hc' => ?_) (fun v9 => ?_)
        · refine rU_of' (fr := false) (r := .ok (.value (.slice (some ⟨(later w5 p').heap.size, 0, none⟩) 2 2)) ((later w5 p').alloc (.cells #[.int .u64 X, .int .u64 Y] 22))) (by kernel_rfl) (by kernel_rfl) ?_
          exact rU_i2 w5 p' X Y
        refine Rel.wpB_step _ rfl rfl (fun p' hc' => ?_) (fun v10 => ?_)
        · have h9 : IsI2 X Y v9 (later w5 p') := hc' _ (List.Mem.head _) (by kernel_rfl)
          obtain ⟨g9, rfl, gb9⟩ := h9
          refine rU_of' (fr := false) (r := .ok (.enter 35 #[.agg #[.int .u64 p, .int .i64 pub, .int .i64 vars, .slice ra R.length rc, .int .i64 sec, .slice ha H.length hc], .slice (some ⟨g9, 0, none⟩) 2 2]) (later w5 p')) (by kernel_rfl) (by kernel_rfl) ?_
          exact rUpon_sl (cK _ _ (hH.mono (below_later _ _)) (Sl.blk [X, Y] gb9 rfl))
        refine Rel.wpB_step _ rfl rfl (fun p' hc' => ?_) (fun v11 => ?_)
        · have h10 : Own (later w5 p') w5.heap.size 22 .u64 v10 F := hc' _ (List.Mem.tail _ (List.Mem.head _)) (by kernel_rfl)
          obtain ⟨a10, c10, rfl, sl10, _, _⟩ := Own.sl h10
          refine rU_of' (fr := false) (r := .ok (.enter 36 #[.agg #[.int .u64 p, .int .i64 pub, .int .i64 vars, .slice ra R.length rc], .slice a10 F.length c10]) (later w5 p')) (by kernel_rfl) (by kernel_rfl) ?_
          exact rUpon_q (cS _ _ _ (hR.mono (below_later _ _)) sl10)
        refine Rel.wpB_nil ?_
        intro p' hctx hfr
        simp only [List.nil_append, List.cons_append, List.mem_cons, List.not_mem_nil, or_false, forall_eq_or_imp, forall_eq] at hctx
        obtain ⟨_, _, rfl⟩ := hctx
        have hbl := below_later w5 p'
        clear hfr m0 m1 m2 m3 m4 m5 cB cS cK
        generalize later w5 p' = w6 at *
        replace g0 := g0.mono hbl
        replace hB := below2 hB hbl
        clear hbl hR hH gC
        have hBs2 : B = (decide (X < 2)) := hBs.out
        generalize (decide (X < 2)) = D at *
        subst hBs2
        go_wp2
        go_roundw
        case rel => exact ⟨2, by omega, by go_num, hB, g0⟩
        case measure => simp [intOf]
      · subst hk4
        clear hk
        go_wp2_with fail
        refine cr.mono ?_
        rintro e w1 ⟨b, lv, Ls, rfl, hB1, ow, hls, eLs, hb1⟩
        obtain ⟨va, vc, rfl, _⟩ := ow.sl
        have hz := hB.size
        replace hB := below2 hB hb1
        replace g0 := g0.mono hb1
        clear k0 k1 k2 k3 cr ow hls eLs hb1
        obtain ⟨cs, gb, h0, h2, h5⟩ := hB1.cells
        have cI := fun (i : Int) W hb hi => Input20_any b cs _ p 0 2 i W (Blk.mono gb hb) h0 h2 h5 hv' (by decide) hi
        go_wp2_with fail
        refine (cI 0 w1 (Below.refl _ _) (by decide)).mono ?_
        rintro e w2 ⟨s1, rfl, e1, l1, hb2⟩
        rw [if_pos (by decide)] at e1
        have ls1 : Hid (s1.l.length = 1) := hide (by rw [e1.out]; rfl)
        have hB2 := hB1.mono hb2
        have hbd : Bd (newS p 0 2) 3 := ⟨⟨(by decide : (0 : Int) ≤ 3), (by decide : (3 : Int) ≤ 3)⟩, (by decide : ((0 : Nat) : Int) ≤ 3), (by decide : ((0 : Nat) : Int) ≤ 3)⟩
        go_wp2_with fail
        refine (cI 1 w2 hb2 (by decide)).mono ?_
        rintro e w9 ⟨s2, rfl, e2, l2, hb9⟩
        rw [if_pos (by decide)] at e2
        have ls2 : Hid (s2.l.length = 1) := hide (by rw [e2.out]; rfl)
        have cG := Assert20_any wr.heap.size b (newS p 0 2) 3 s1 s2 w9 (hB2.mono hb9) hv' hbd (by decide) (l1.mono hb9) l2 (by have := ls1.out; omega) (by have := ls2.out; omega)
        clear cI h0 h2 h5 gb hB1
        go_wp2_with fail
        refine cG.mono ?_
        rintro e w3 ⟨rfl, hB3, k3⟩
        rw [show s1.l = [(1, 1)] from e1.out, show s2.l = [(2, 1)] by have := e2.out; simpa using this] at hB3
        replace g0 := k3.typ _ _ _ ((g0.mono hb2).mono hb9) (by decide) (by decide) (by decide)
        replace hB := (below2 (below2 hB hb2) hb9).trans (k3.below.mono hz)
        clear k3 cG hbd l1 l2 hB2 hb2 hb9
        obtain ⟨S', hS'⟩ : ∃ S', S' = gAssert (newS p 0 2) [(1, 1)] [(2, 1)] := ⟨_, rfl⟩
        obtain ⟨u1, u2, u3, u4, u5⟩ := q3.out
        rw [← hS'] at hB3 u1 u2 u3 u4 u5
        clear hS'
        have cC := circ_any wr.heap.size b S' [X, Y] p w3 hB3 u1 u2 u3 u4
        have hFW := fin_W u1
        generalize fin S' [X, Y] = F at *
        obtain ⟨ok, hok⟩ : ∃ ok, ok = Sat S' [X, Y] := ⟨_, rfl⟩
        rw [← hok] at cC u5
        replace hok := hide hok
        replace u5 := hide u5
        clear u1 u2 u3 u4 hB3
        go_wp2_with fail
        refine cC.mono ?_
        rintro e w4 ⟨pub, vars, ra, R, rc, sec, ha, H, hc, rfl, hR, hH, hC, hln, hF, hfl, hsat, hvb, hsw, hb4⟩
        have hBs : Hid (rowsSat p F R = decide (X = Y)) := hide (by rw [Bool.eq_iff_iff, hsat.out, u5.out, decide_eq_true_eq])
        clear hsat u5 cC hok
        go_wp2_with fail
        refine name_world fun w5 hN => ?_
        have gC : Blk w5 w4.heap.size #[.int .u64 p, .int .i64 pub, .int .i64 vars, .slice ra R.length rc, .int .i64 sec, .slice ha H.length hc] 37 := by rw [hN]; exact Blk.newAt rfl
        have hb5 : Below w4.heap.size w4 w5 := by rw [hN]; exact (Below.refl _ _).alloc (Nat.le_refl _) _
        clear hN
        replace hR := hR.mono hb5
        replace hH := hH.mono hb5
        replace hB := below2 (below2 hB hb4) hb5
        replace g0 := (g0.mono hb4).mono hb5
        clear hb4 hb5
        have m0 := cell_later' (gC.cell (j := 0) (v := .int .u64 p) rfl); have m1 := cell_later' (gC.cell (j := 1) (v := .int .i64 pub) rfl); have m2 := cell_later' (gC.cell (j := 2) (v := .int .i64 vars) rfl); have m3 := cell_later' (gC.cell (j := 3) (v := .slice ra R.length rc) rfl); have m4 := cell_later' (gC.cell (j := 4) (v := .int .i64 sec) rfl); have m5 := cell_later' (gC.cell (j := 5) (v := .slice ha H.length hc) rfl)
        have cB := fun P => bounded_any p pub vars ra R rc sec ha H hc (later w5 P) (hR.mono (below_later _ _)) (hH.mono (below_later _ _)) hC.out
        have cS := fun a c W h1 h2 => rSat20_any p pub vars ra R rc a c F W h1 h2 hFW (cir_bd hC.out).1 hfl.out
        have cK := fun a W h1 h2 => Complete_any p pub vars ra R rc sec ha H hc a 2 [X, Y] W h1 h2 hAI hC.out hln.out
        rw [hF.out] at cK
        generalize rowsSat p F R = B at *
        refine Rel.wp_region_mix 13 [] [(9, IsI2 X Y), (10, fun v w => Own w w5.heap.size 22 .u64 v F), (11, fun v _ => v = .bool B)] Try.mixed (by kernel_rfl) (by kernel_rfl) ?_ ?_
        rotate_left
        simp only [List.take_succ_cons, List.take_zero, List.drop_succ_cons, List.drop_zero, List.map_cons, List.map_nil]
        repeat (first | (refine Rel.wpA_b (by rfl) ?_) | (refine Rel.wpA_step (by rfl) fun K hK => ?_; go_simp; first | (refine hK _ ?_; clear hK K) | (apply Exists.intro; refine ⟨fun _ => ?_, hK _ ?_⟩; (first | (go_at_call 33; exact cB _)); clear hK K)))
        refine Rel.wpA_nil ?_
        rotate_left
        · intro z hz v u u' h1 h2
          simp only [List.mem_cons, List.not_mem_nil, or_false] at hz
          rcases hz with rfl | rfl | rfl
          · exact IsI2.mono h1 h2
          · exact Own.mono h1 h2
          · exact h1
        refine Rel.wpB_step _ rfl rfl (fun p' hc' => ?_) (fun v9 => ?_)
        · refine rU_of' (fr := false) (r := .ok (.value (.slice (some ⟨(later w5 p').heap.size, 0, none⟩) 2 2)) ((later w5 p').alloc (.cells #[.int .u64 X, .int .u64 Y] 22))) (by kernel_rfl) (by kernel_rfl) ?_
          exact rU_i2 w5 p' X Y
        refine Rel.wpB_step _ rfl rfl (fun p' hc' => ?_) (fun v10 => ?_)
        · have h9 : IsI2 X Y v9 (later w5 p') := hc' _ (List.Mem.head _) (by kernel_rfl)
          obtain ⟨g9, rfl, gb9⟩ := h9
          refine rU_of' (fr := false) (r := .ok (.enter 35 #[.agg #[.int .u64 p, .int .i64 pub, .int .i64 vars, .slice ra R.length rc, .int .i64 sec, .slice ha H.length hc], .slice (some ⟨g9, 0, none⟩) 2 2]) (later w5 p')) (by kernel_rfl) (by kernel_rfl) ?_
          exact rUpon_sl (cK _ _ (hH.mono (below_later _ _)) (Sl.blk [X, Y] gb9 rfl))
        refine Rel.wpB_step _ rfl rfl (fun p' hc' => ?_) (fun v11 => ?_)
        · have h10 : Own (later w5 p') w5.heap.size 22 .u64 v10 F := hc' _ (List.Mem.tail _ (List.Mem.head _)) (by kernel_rfl)
          obtain ⟨a10, c10, rfl, sl10, _, _⟩ := Own.sl h10
          refine rU_of' (fr := false) (r := .ok (.enter 36 #[.agg #[.int .u64 p, .int .i64 pub, .int .i64 vars, .slice ra R.length rc], .slice a10 F.length c10]) (later w5 p')) (by kernel_rfl) (by kernel_rfl) ?_
          exact rUpon_q (cS _ _ _ (hR.mono (below_later _ _)) sl10)
        refine Rel.wpB_nil ?_
        intro p' hctx hfr
        simp only [List.nil_append, List.cons_append, List.mem_cons, List.not_mem_nil, or_false, forall_eq_or_imp, forall_eq] at hctx
        obtain ⟨_, _, rfl⟩ := hctx
        have hbl := below_later w5 p'
        clear hfr m0 m1 m2 m3 m4 m5 cB cS cK
        generalize later w5 p' = w6 at *
        replace g0 := g0.mono hbl
        replace hB := below2 hB hbl
        clear hbl hR hH gC
        have hBs2 : B = (X == Y) := hBs.out.trans (by cases h : X == Y <;> simp_all)
        generalize (X == Y) = D at *
        subst hBs2
        go_wp2
        go_roundw
        case rel => exact ⟨3, by omega, by go_num, hB, g0⟩
        case measure => simp [intOf]
      · subst hk4
        clear cr k0 k1 k2 k3
        go_wp2
        go_ret
        exact ⟨rfl, hB⟩

set_option maxRecDepth 100000 in
theorem lifted (os : Os) (started : os.Started) (H : Type) (enc : TypeId × Value → H) :
    ReturnsInHanded {} Try.checked os 9 .any (Rows.gadgetRangeSpec.pre6 enc Try.prog Try.f9 Rows.gadgetRangeRow.domain false) (Rows.gadgetRangeSpec.post enc Try.prog Try.f9 false true false false) := by
  refine returnsInHanded_of_change (C := Try.checked) own started (by kernel_rfl) Try.func9
    (ChangeSpec.witness6 (enc := enc) (C := Try.checked) false ⟨#[], #[.int .u64 0, .int .u64 0, .int .u64 0], []⟩ 8 (by kernel_rfl) (by kernel_rfl) (by kernel_rfl) (by kernel_rfl)) ?_
  intro W base args ds gs before hval0 hW hcnd _
  have hval : ∀ (j : Nat) t v, Try.f9.params[j]? = some t → args[j]? = some v → Value.okWide Try.prog W .any base t v := hval0
  have hW' := hW
  obtain ⟨p, q, hA0, hV, rfl, hfz, hnd⟩ := hW
  have hA : DataW.TrodAll enc Try.prog W 0 (fun _ => true) true Try.f9.params.toList args.toList ds p := hA0
  rw [Try.params9] at hA hval
  obtain ⟨v0, vs0, d0, ds0, p0, q0, hargs, rfl, rfl, h0, r0⟩ := trodAll_cons hA
  obtain ⟨v1, vs1, d1, ds1, p1, q1, rfl, rfl, rfl, h1, r1⟩ := trodAll_cons r0
  obtain ⟨v2, vs2, d2, ds2, p2, q2, rfl, rfl, rfl, h2, r2⟩ := trodAll_cons r1
  obtain ⟨rfl, rfl, rfl⟩ := trodAll_nil r2
  obtain rfl : args = #[v0, v1, v2] := by cases args; simp_all
  obtain ⟨rfl, rfl⟩ := trodVars_none hV
  obtain ⟨a0, rfl, rfl, rfl, w0⟩ := open_int Try.underlying22 (hval 0 22 v0 rfl rfl) h0
  obtain ⟨a1, rfl, rfl, rfl, w1⟩ := open_int Try.underlying22 (hval 1 22 v1 rfl rfl) h1
  obtain ⟨a2, rfl, rfl, rfl, w2⟩ := open_int Try.underlying22 (hval 2 22 v2 rfl rfl) h2
  clear hA0 hval0
  simp only [List.append_nil] at hW'
  refine (walk a0 a1 a2 W w0 w1 w2).mono fun e W' ⟨he, hg⟩ => ?_
  subst he
  exact ⟨_, rfl, post_of_below (pv := []) hW' (fun _ _ _ => (trodAll_cons_mk (shut_bool Try.underlying4 _) trodAll_mk0))
    (fun sp _ hsp => by subst hsp; exact (trodAll_cons_mk (shut_int Try.underlying22 w0) (trodAll_cons_mk (shut_int Try.underlying22 w1) (trodAll_cons_mk (shut_int Try.underlying22 w2) trodAll_mk0)))) (fun _ _ => rfl) (by simp) hg⟩

theorem closed : joinedFacts Try.prog 9 Try.f9 Rows.gadgetRangeSpec Rows.gadgetRangeRow = true := by
  unfold joinedFacts
  rw [Try.mayEnter, Try.liftsFinal, Try.make]
  kernel_rfl

theorem proved : Rows.GadgetRangeSaid :=
  OpenClaim.holds_of_wide 9 Try.f9 rfl rfl rfl rfl rfl rfl rfl ⟨rfl, rfl, rfl, rfl, rfl⟩ rfl rfl rfl rfl rfl (by kernel_rfl) Try.func9 closed
    (of_decide_eq_true (by kernel_rfl)) (by unfold Func.isWrapper; first | (rw [if_pos (by decide +kernel)]; kernel_rfl) | (rw [if_neg (by decide +kernel)]; exact ⟨rfl, rfl⟩))
    (fun os started H enc _ => lifted os started H enc)
#print axioms proved
end gadgetRange
end Go.Proofs.Ytlgjnidphldiiaa
