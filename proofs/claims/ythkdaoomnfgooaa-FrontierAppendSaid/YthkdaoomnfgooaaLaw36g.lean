/- FrontierAppend: Append returns the specified frontier or error for every frontier and leaf, and does not change the frontier. -/
import Derived.Test.YthkdaoomnfgooaaFronX
import Derived.Test.YthkdaoomnfgooaaAwake36
import Derived.Test.YthkdaoomnfgooaaOpen
namespace Go.Proofs.Ythkdaoomnfgooaa
open Go.ChangeShapes Go.WideShapes Go.ChangeAt Go.RowKit
namespace frontierAppend

theorem appF_len (d c : Int) (L : List Int) (x : Int) : (appF d c L x).length ≤ L.length := by
  unfold appF; split
  · rw [appL_len]; exact Nat.le_refl _
  · exact Nat.zero_le _
theorem appL_W : ∀ (c : Nat) (L : List Int) (x : Int), AllW L → 0 ≤ x ∧ x < 18446744073709551616 → AllW (appL c L x)
  | _, [], _, _, _, y, h => by cases h
  | c, l :: r, x, hL, hx, y, h => by
    have hr : AllW r := fun z hz => hL z (List.mem_cons_of_mem _ hz)
    unfold appL at h
    split at h
    · rcases List.mem_cons.1 h with rfl | h
      · exact ⟨Int.le_refl 0, by decide⟩
      · exact appL_W (c / 2) r (nd l x) hr (nd_bd _ _) y h
    · rcases List.mem_cons.1 h with rfl | h
      · exact hx
      · exact hr y h
theorem appF_W {d c : Int} {L : List Int} {x : Int} (hL : AllW L) (hx : 0 ≤ x ∧ x < 18446744073709551616) : AllW (appF d c L x) := by
  unfold appF; split
  · exact appL_W _ _ _ hL hx
  · intro y h; cases h

set_option maxRecDepth 10000 in
set_option maxHeartbeats 4000000 in
theorem walk (d c : Int) (ad : Option Addr) (cap : Nat) (L : List Int) (x : Int) (w : World) (_ : (Lit.int .i64 d).wf = true) (hc : (Lit.int .i64 c).wf = true) (S : SlP w .u64 ad cap L) (hx : (Lit.int .u64 x).wf = true) :
    Calls Try.prog 5 #[.agg #[.int .i64 d, .int .i64 c, .slice ad L.length cap], .int .u64 x] w fun e w' => e = .returned (.bool true) ∧ Below w.heap.size w w' := by
  obtain ⟨_, c1⟩ := wf_int hc
  have hxb := wf_u64 hx
  have hs := S.sl
  have hw := wfs_u64 S.wf
  have cSm := fun W : World => small36_any d c ad cap L.length W
  clear S hc hx
  by_cases hsm : smallB d L.length = true
  · rw [hsm] at cSm
    have hl20 : L.length ≤ 20 := (of_decide_eq_true hsm).1
    have hl : L.length < 1099511627776 := by omega
    have cO := fun (W : World) hs => own36_any d c ad cap L W hs hl
    have cA1 := fun (ad : Option Addr) (cap : Nat) (W : World) hs => Append_any d c x ad cap L W hxb hs hw hl c1
    have cA2 := fun (W : World) hs => rAppend36_any d c x ad cap L W hxb hs hw hl c1
    have hFl := appF_len d c L x
    have hFw := appF_W (d := d) (c := c) hw hxb
    generalize appF d c L x = F at *
    generalize appD d c L x = D at *
    generalize appC d c L x = C at *
    generalize appE d c L x = E at *
    have cS1 := fun (ad ad' : Option Addr) (cap cap' : Nat) (W : World) hs ht => Same36_any d c d c ad ad' cap cap' L L W hs ht hl
    have cS2 := fun (ad ad' : Option Addr) (cap cap' : Nat) (W : World) hs ht => Same36_any D C D C ad ad' cap cap' F F W hs ht (by omega)
    have e1 : sameB d c d c L L = true := by unfold sameB; simp
    have e2 : sameB D C D C F F = true := by unfold sameB; simp
    rw [e1] at cS1
    rw [e2] at cS2
    have hEE : (E == E) = true := by simp
    clear hsm c1 e1 e2 hxb hw
    go_enter Try.func5, Try.ntmps5
    go_wp2_with fail
    refine name_calls fun W hW => ?_
    have g0 : Blk W w.heap.size #[.int .i64 d, .int .i64 c, .slice ad L.length cap] 24 := by rw [hW]; exact Blk.newAt rfl
    have hB : Below w.heap.size w W := by rw [hW]; exact (Below.refl _ _).alloc (Nat.le_refl _) _
    clear hW
    refine (awake36 W).mono ?_
    rintro e w1 ⟨rfl, hb1⟩
    replace g0 := g0.mono hb1
    replace hB := below2 hB hb1
    clear hb1
    have k0 := g0.cell (j := 0) (v := .int .i64 d) rfl; have k1 := g0.cell (j := 1) (v := .int .i64 c) rfl; have k2 := g0.cell (j := 2) (v := .slice ad L.length cap) rfl
    go_wp2_with fail
    refine (cSm w1).mono ?_
    rintro e w2 ⟨rfl, hb2⟩
    replace g0 := g0.mono hb2
    replace hB := below2 hB hb2
    clear hb2 cSm k0 k1 k2
    have k0 := g0.cell (j := 0) (v := .int .i64 d) rfl; have k1 := g0.cell (j := 1) (v := .int .i64 c) rfl; have k2 := g0.cell (j := 2) (v := .slice ad L.length cap) rfl
    go_wp2_with fail
    refine (cO w2 (hs.mono hB)).mono ?_
    rintro e w3 ⟨v3, rfl, oX, hb3⟩
    replace oX := oX.low hB.size
    replace g0 := g0.mono hb3
    replace hB := below2 hB hb3
    obtain ⟨aX, cX, rfl, _, _, _⟩ := Own.sl oX
    clear hb3 cO k0 k1 k2
    go_wp2_with fail
    refine name_calls fun W hW => ?_
    have g5 : Blk W w3.heap.size #[.int .i64 d, .int .i64 c, .slice aX L.length cX] 28 := by rw [hW]; exact Blk.newAt rfl
    replace hB : Below w.heap.size w W := by rw [hW]; exact hB.alloc hB.size _
    replace oX : Own W w.heap.size 30 .u64 (.slice aX L.length cX) L := by rw [hW]; exact oX.alloc _
    replace g0 : Blk W w.heap.size #[.int .i64 d, .int .i64 c, .slice ad L.length cap] 24 := by rw [hW]; exact g0.alloc _
    clear hW
    generalize w3.heap.size = b5 at *
    obtain ⟨_, _, he, sX, _, _⟩ := Own.sl oX
    injection he with he1 he2 he3
    subst he1
    clear he2 he3
    refine (cA1 _ _ W sX).mono ?_
    rintro e w4 ⟨v4, rfl, oG, hb4⟩
    obtain ⟨aG, cG, rfl, _, _, _⟩ := Own.sl oG
    have nX : ∀ g, (Value.slice aG F.length cG).ownBlock = some g → (Value.slice aX L.length cX).ownBlock ≠ some g := fun g e1 e2 => by
      have := (oG.lt e1).1
      have := (oX.lt e2).2
      omega
    replace oG := oG.low hB.size
    replace oX := oX.mono hb4
    replace g0 := g0.mono hb4
    replace g5 := g5.mono hb4
    replace hB := below2 hB hb4
    clear cA1 hb4 sX
    have H0 := g0.alloc (.cells #[.int .i64 D, .int .i64 C, .slice aG F.length cG] 28)
    have k0 := H0.cell (j := 0) (v := .int .i64 d) rfl; have k1 := H0.cell (j := 1) (v := .int .i64 c) rfl; have k2 := H0.cell (j := 2) (v := .slice ad L.length cap) rfl
    clear H0
    go_wp2_with fail
    refine name_calls fun W hW => ?_
    have g6 : Blk W w4.heap.size #[.int .i64 D, .int .i64 C, .slice aG F.length cG] 28 := by rw [hW]; exact Blk.newAt rfl
    replace hB : Below w.heap.size w W := by rw [hW]; exact hB.alloc hB.size _
    replace oX : Own W w.heap.size 30 .u64 (.slice aX L.length cX) L := by rw [hW]; exact oX.alloc _
    replace oG : Own W w.heap.size 30 .u64 (.slice aG F.length cG) F := by rw [hW]; exact oG.alloc _
    replace g0 : Blk W w.heap.size #[.int .i64 d, .int .i64 c, .slice ad L.length cap] 24 := by rw [hW]; exact g0.alloc _
    replace g5 : Blk W b5 #[.int .i64 d, .int .i64 c, .slice aX L.length cX] 28 := by rw [hW]; exact g5.alloc _
    clear hW k0 k1 k2
    generalize w4.heap.size = b6 at *
    refine (cA2 W (hs.mono hB)).mono ?_
    rintro e w5 ⟨v5, rfl, oH, hb5⟩
    obtain ⟨aH, cH, rfl, _, _, _⟩ := Own.sl oH
    have nH : ∀ g, (Value.slice aG F.length cG).ownBlock = some g → (Value.slice aH F.length cH).ownBlock ≠ some g := fun g e1 e2 => by
      have := (oG.lt e1).2
      have := (oH.lt e2).1
      omega
    replace oH := (oH.low hB.size).alloc (.cells #[.int .i64 D, .int .i64 C, .slice aH F.length cH] 24)
    replace oG := (oG.mono hb5).alloc (.cells #[.int .i64 D, .int .i64 C, .slice aH F.length cH] 24)
    replace oX := (oX.mono hb5).alloc (.cells #[.int .i64 D, .int .i64 C, .slice aH F.length cH] 24)
    replace g0 := (g0.mono hb5).alloc (.cells #[.int .i64 D, .int .i64 C, .slice aH F.length cH] 24)
    replace g5 := (g5.mono hb5).alloc (.cells #[.int .i64 D, .int .i64 C, .slice aH F.length cH] 24)
    replace g6 := (g6.mono hb5).alloc (.cells #[.int .i64 D, .int .i64 C, .slice aH F.length cH] 24)
    replace hB := (below2 hB hb5).alloc (below2 hB hb5).size (.cells #[.int .i64 D, .int .i64 C, .slice aH F.length cH] 24)
    have g8 : Blk (w5.alloc (.cells #[.int .i64 D, .int .i64 C, .slice aH F.length cH] 24)) w5.heap.size #[.int .i64 D, .int .i64 C, .slice aH F.length cH] 24 := Blk.newAt rfl
    have e0 : incL 0 F = F := rfl
    have H0 : St36 w (w5.alloc (.cells #[.int .i64 D, .int .i64 C, .slice aH F.length cH] 24)) b5 b6 w5.heap.size d c D C (.slice ad L.length cap) (.slice aX L.length cX) (.slice aG F.length cG) (.slice aH F.length cH) L (incL 0 F) F :=
      ⟨hB, g0, g5, g6, g8, oX, by rw [e0]; exact oG, oH, nX, nH⟩
    have k6 := g6.cell (j := 2) (v := .slice aG F.length cG) rfl
    clear cA2 hb5 g0 g5 g6 g8 oX oG oH hB nX nH e0
    go_wp2_with fail
    clear k6
    generalize w5.heap.size = b8 at *
    generalize w5.alloc (.cells #[.int .i64 D, .int .i64 C, .slice aH F.length cH] 24) = w6 at *
    go_loopw [37] (fun t37 wr => ∃ i : Nat, i ≤ F.length ∧ t37 = .int .i64 i ∧ St36 w wr b5 b6 b8 d c D C (.slice ad L.length cap) (.slice aX L.length cX) (.slice aG F.length cG) (.slice aH F.length cH) L (incL i F) F) (fun t37 _ => F.length - (intOf t37).toNat)
    case atStart => exact ⟨0, by omega, rfl, H0⟩
    case round =>
      obtain ⟨i, hi, rfl, G⟩ := hrel
      clear H0
      by_cases hlt : i < F.length
      · have hlt' : (i : Int) < F.length := by omega
        obtain ⟨g, cp, rfl⟩ : ∃ (g : Nat) (_ : Nat), aG = some ⟨g, 0, none⟩ := by
          rcases G.oG.form with ⟨he, _⟩ | ⟨g, cp, _, he, _⟩
          · injection he with _ he _; omega
          · injection he with he _ _; exact ⟨g, cp, he⟩
        have hc := G.oG.cell hlt
        have hfr := G.oG.free i
        have hyb := hFw.get hlt
        have hst := incL_set hlt
        rw [incL_get hlt] at hc
        obtain ⟨y, hy⟩ : ∃ y, y = F.getD i 0 := ⟨_, rfl⟩
        rw [← hy] at hc hyb hst
        obtain ⟨z, hz⟩ : ∃ z, z = w64 (y + 1) := ⟨_, rfl⟩
        have hwz : IntKind.u64.wrap (y + 1) = z := hz.symm
        rw [← hz] at hst
        replace hy := hide hy
        replace hz := hide hz
        have k2 := G.k6.cell (j := 2) (v := .slice (some ⟨g, 0, none⟩) F.length cG) rfl
        have G2 := G.set i z
        rw [hst] at G2
        clear hst
        clear G
        go_wp2
        go_roundw
        case rel => exact ⟨i + 1, by omega, by go_num, G2⟩
        case measure => simp [intOf]; omega
      · obtain rfl : i = F.length := by omega
        rw [inc_dec] at G
        clear hlt hi
        have k0 := cell_later' (G.k0.cell (j := 0) (v := .int .i64 d) rfl); have k1 := cell_later' (G.k0.cell (j := 1) (v := .int .i64 c) rfl); have k2 := cell_later' (G.k0.cell (j := 2) (v := .slice ad L.length cap) rfl)
        have k3 := cell_later' (G.k5.cell (j := 0) (v := .int .i64 d) rfl); have k4 := cell_later' (G.k5.cell (j := 1) (v := .int .i64 c) rfl); have k5 := cell_later' (G.k5.cell (j := 2) (v := .slice aX L.length cX) rfl)
        obtain ⟨_, _, he, sX, _, _⟩ := Own.sl G.oX
        injection he with he1 he2 he3
        subst he1
        clear he2 he3
        go_wp2_with fail
        refine wp_region_later Try.mixed (by kernel_rfl) ?_
        repeat (first | go_big_quiet_step (first | (go_at_call 27; exact Calls.later_of (back36_any d c _ L.length _ _)) | (go_at_call 26; exact Calls.later_of (cS1 _ _ _ _ _ (sX.mono (below_later _ _)) ((hs.mono G.B).mono (below_later _ _))))) | quiet_step (first | (go_at_call 27; exact Calls.later_of (back36_any d c _ L.length _ _)) | (go_at_call 26; exact Calls.later_of (cS1 _ _ _ _ _ (sX.mono (below_later _ _)) ((hs.mono G.B).mono (below_later _ _))))))
        refine wpQuiet_nil ?_
        intro w7 hb7
        replace hb7 := below_of_later hb7
        have G7 := G.mono hb7
        clear k0 k1 k2 k3 k4 k5 sX cS1 G hb7
        have k6 := G7.k6.cell (j := 2) (v := .slice aG F.length cG) rfl
        go_wp2_with fail
        clear k6
        go_loopw [56] (fun t56 wr => ∃ i : Nat, i ≤ F.length ∧ t56 = .int .i64 i ∧ St36 w wr b5 b6 b8 d c D C (.slice ad L.length cap) (.slice aX L.length cX) (.slice aG F.length cG) (.slice aH F.length cH) L (decL i F) F) (fun t56 _ => F.length - (intOf t56).toNat)
        case atStart => exact ⟨0, by omega, rfl, G7⟩
        case round =>
          obtain ⟨i, hi, rfl, G⟩ := hrel
          clear G7
          by_cases hlt : i < F.length
          · have hlt' : (i : Int) < F.length := by omega
            obtain ⟨g, cp, rfl⟩ : ∃ (g : Nat) (_ : Nat), aG = some ⟨g, 0, none⟩ := by
              rcases G.oG.form with ⟨he, _⟩ | ⟨g, cp, _, he, _⟩
              · injection he with _ he _; omega
              · injection he with he _ _; exact ⟨g, cp, he⟩
            have hc := G.oG.cell hlt
            have hfr := G.oG.free i
            have hyb := hFw.get hlt
            have hst := decL_set hlt
            rw [decL_get hlt] at hc
            obtain ⟨y, hy⟩ : ∃ y, y = F.getD i 0 := ⟨_, rfl⟩
            rw [← hy] at hc hyb hst
            have hwz := w64_back hyb
            obtain ⟨z, hz⟩ : ∃ z, z = w64 (y + 1) := ⟨_, rfl⟩
            have hzb := w64_bd (y + 1)
            rw [← hz] at hwz hc hzb
            replace hwz : IntKind.u64.wrap (z - 1) = y := hwz
            replace hy := hide hy
            replace hz := hide hz
            have k2 := G.k6.cell (j := 2) (v := .slice (some ⟨g, 0, none⟩) F.length cG) rfl
            have G2 := G.set i y
            rw [hst] at G2
            clear hst
            clear G
            go_wp2
            go_roundw
            case rel => exact ⟨i + 1, by omega, by go_num, G2⟩
            case measure => simp [intOf]; omega
          · obtain rfl : i = F.length := by omega
            rw [decL_all] at G
            clear hlt hi
            have k0 := cell_later' (G.k6.cell (j := 0) (v := .int .i64 D) rfl); have k1 := cell_later' (G.k6.cell (j := 1) (v := .int .i64 C) rfl); have k2 := cell_later' (G.k6.cell (j := 2) (v := .slice aG F.length cG) rfl)
            have k3 := cell_later' (G.k8.cell (j := 0) (v := .int .i64 D) rfl); have k4 := cell_later' (G.k8.cell (j := 1) (v := .int .i64 C) rfl); have k5 := cell_later' (G.k8.cell (j := 2) (v := .slice aH F.length cH) rfl)
            obtain ⟨_, _, he, sG, _, _⟩ := Own.sl G.oG
            injection he with he1 he2 he3
            subst he1
            clear he2 he3
            obtain ⟨_, _, he, sH, _, _⟩ := Own.sl G.oH
            injection he with he1 he2 he3
            subst he1
            clear he2 he3
            go_wp2_with fail
            refine wp_region_later Try.mixed (by kernel_rfl) ?_
            repeat (first | go_big_quiet_step (first | (go_at_call 27; exact Calls.later_of (back36_any D C _ F.length _ _)) | (go_at_call 26; exact Calls.later_of (cS2 _ _ _ _ _ (sG.mono (below_later _ _)) (sH.mono (below_later _ _))))) | quiet_step (first | (go_at_call 27; exact Calls.later_of (back36_any D C _ F.length _ _)) | (go_at_call 26; exact Calls.later_of (cS2 _ _ _ _ _ (sG.mono (below_later _ _)) (sH.mono (below_later _ _))))))
            refine wpQuiet_nil ?_
            intro w9 hb9
            replace hb9 := below_of_later hb9
            have hB9 := below2 G.B hb9
            clear k0 k1 k2 k3 k4 k5 sG sH cS2 G hb9
            go_wp2
            go_ret
            exact ⟨rfl, hB9⟩
  · replace hsm : smallB d L.length = false := by simpa using hsm
    rw [hsm] at cSm
    clear hsm c1 hxb
    go_enter Try.func5, Try.ntmps5
    go_wp2_with fail
    refine name_calls fun W hW => ?_
    have g0 : Blk W w.heap.size #[.int .i64 d, .int .i64 c, .slice ad L.length cap] 24 := by rw [hW]; exact Blk.newAt rfl
    have hB : Below w.heap.size w W := by rw [hW]; exact (Below.refl _ _).alloc (Nat.le_refl _) _
    clear hW
    refine (awake36 W).mono ?_
    rintro e w1 ⟨rfl, hb1⟩
    replace g0 := g0.mono hb1
    replace hB := below2 hB hb1
    clear hb1
    have k0 := g0.cell (j := 0) (v := .int .i64 d) rfl; have k1 := g0.cell (j := 1) (v := .int .i64 c) rfl; have k2 := g0.cell (j := 2) (v := .slice ad L.length cap) rfl
    go_wp2_with fail
    refine (cSm w1).mono ?_
    rintro e w2 ⟨rfl, hb2⟩
    replace hB := below2 hB hb2
    clear hb2 cSm k0 k1 k2 g0
    go_wp2_with fail
    refine (awake36 _).mono ?_
    rintro ew3 w3 ⟨rfl, hb3⟩
    go_wp2
    go_ret
    exact ⟨rfl, below2 hB hb3⟩

set_option maxRecDepth 100000 in
theorem lifted (os : Os) (started : os.Started) (H : Type) (enc : TypeId × Value → H) :
    ReturnsInHanded {} Try.checked os 5 .any (Rows.frontierAppendSpec.pre6 enc Try.prog Try.f5 Rows.frontierAppendRow.domain false) (Rows.frontierAppendSpec.post enc Try.prog Try.f5 false true false false) := by
  refine returnsInHanded_of_change (C := Try.checked) own started (by kernel_rfl) Try.func5
    (ChangeSpec.witness6 (enc := enc) (C := Try.checked) false ⟨#[], #[.agg #[.int .i64 0, .int .i64 0, .slice none 0 0], .int .u64 0], []⟩ 8 (by kernel_rfl) (by kernel_rfl) (by kernel_rfl) (by kernel_rfl)) ?_
  intro W base args ds gs before hval0 hW hcnd _
  have hval : ∀ (j : Nat) t v, Try.f5.params[j]? = some t → args[j]? = some v → Value.okWide Try.prog W .any base t v := hval0
  have hW' := hW
  obtain ⟨p, q, hA0, hV, rfl, hfz, hnd⟩ := hW
  have hA : DataW.TrodAll enc Try.prog W 0 (fun _ => true) true Try.f5.params.toList args.toList ds p := hA0
  rw [Try.params5] at hA hval
  obtain ⟨v0, vs0, d0, ds0, p0, q0, hargs, rfl, rfl, h0, r0⟩ := trodAll_cons hA
  obtain ⟨v1, vs1, d1, ds1, p1, q1, rfl, rfl, rfl, h1, r1⟩ := trodAll_cons r0
  obtain ⟨rfl, rfl, rfl⟩ := trodAll_nil r1
  obtain rfl : args = #[v0, v1] := by cases args; simp_all
  obtain ⟨rfl, rfl⟩ := trodVars_none hV
  have k0 := h0
  obtain ⟨v0_0, v0_1, v0_2, y0_0, y0_1, y0_2, n0, rfl, rfl, rfl, t0_0, t0_1, t0_2⟩ := Joins.open_agg3 Try.underlying24 (by kernel_rfl) (by kernel_rfl) (hval 0 24 v0 rfl rfl) h0
  obtain ⟨a0_0, e0_0, _, w0_0⟩ := DataW.trod_int Try.underlying3 t0_0
  simp only [List.cons.injEq, and_true] at e0_0
  subst e0_0
  obtain ⟨a0_1, e0_1, _, w0_1⟩ := DataW.trod_int Try.underlying3 t0_1
  simp only [List.cons.injEq, and_true] at e0_1
  subst e0_1
  obtain ⟨ad0_2, cap0_2, xs0_2, rfl, S0_2⟩ := open_slice_f Try.underlying22 Try.underlying30 (by kernel_rfl) t0_2 (fun x hx => hW'.lt x (by simp [hx]))
  obtain ⟨a1, rfl, rfl, rfl, w1⟩ := open_int Try.underlying30 (hval 1 30 v1 rfl rfl) h1
  clear hA0 hval0
  simp only [List.append_nil] at hW'
  refine (walk a0_0 a0_1 ad0_2 cap0_2 xs0_2 a1 W w0_0 w0_1 S0_2 w1).mono fun e W' ⟨he, hg⟩ => ?_
  subst he
  exact ⟨_, rfl, post_of_below (pv := []) hW' (fun _ _ _ => (trodAll_cons_mk (shut_bool Try.underlying4 _) trodAll_mk0))
    (fun sp _ hsp => by subst hsp; exact (trodAll_cons_mk (Below.trod Try.laidOut (by kernel_rfl) (of_decide_eq_true (by kernel_rfl)) k0 hg (fun x hx => hW'.lt x (by simp [hx]))) (trodAll_cons_mk (shut_int Try.underlying30 w1) trodAll_mk0))) (fun _ _ => rfl) (by simp) hg⟩

theorem closed : joinedFacts Try.prog 5 Try.f5 Rows.frontierAppendSpec Rows.frontierAppendRow = true := by
  unfold joinedFacts
  rw [Try.mayEnter, Try.liftsFinal, Try.make]
  kernel_rfl

theorem proved : Rows.FrontierAppendSaid :=
  OpenClaim.holds_of_wide 5 Try.f5 rfl rfl rfl rfl rfl rfl rfl ⟨rfl, rfl, rfl, rfl, rfl⟩ rfl rfl rfl rfl rfl (by kernel_rfl) Try.func5 closed
    (of_decide_eq_true (by kernel_rfl)) (by unfold Func.isWrapper; first | (rw [if_pos (by decide +kernel)]; kernel_rfl) | (rw [if_neg (by decide +kernel)]; exact ⟨rfl, rfl⟩))
    (fun os started H enc _ => lifted os started H enc)
#print axioms proved
end frontierAppend
end Go.Proofs.Ythkdaoomnfgooaa
