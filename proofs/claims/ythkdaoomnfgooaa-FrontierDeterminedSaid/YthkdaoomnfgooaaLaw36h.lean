/- FrontierDetermined: Two lists of leaves with the same frontiers at each step are equal, or two different pairs have the same node. -/
import Derived.Test.YthkdaoomnfgooaaFronX
import Derived.Test.YthkdaoomnfgooaaAwake36
import Derived.Test.YthkdaoomnfgooaaOpen
namespace Go.Proofs.Ythkdaoomnfgooaa
open Go.ChangeShapes Go.WideShapes Go.ChangeAt Go.RowKit
namespace frontierDetermined

theorem AllW.take {xs : List Int} (h : AllW xs) (n : Nat) : AllW (xs.take n) := fun x hx => h x (List.mem_of_mem_take hx)
theorem Sl.take {w : World} {k : IntKind} {a : Option Addr} {xs : List Int} (h : Sl w k a xs) (n : Nat) : Sl w k a (xs.take n) := fun h0 => by
  rw [List.length_take] at h0
  obtain ⟨b, off, e, hl, hc⟩ := h (by omega)
  refine ⟨b, off, e, hl, fun i hi => ?_⟩
  rw [List.length_take] at hi
  rw [hc i (by omega)]
  congr 2
  simp only [List.getD_eq_getElem?_getD]
  rw [List.getElem?_take_of_lt (by omega)]

/-- The inner loop: what stays equal. -/
def detInv (L : List Int) (i k : Nat) (x y : Int) : Prop := appL (i / 2 ^ k) (L.drop k) x = appL (i / 2 ^ k) (L.drop k) y
theorem det_bit {L : List Int} {i k : Nat} {x y : Int} (h : detInv L i k x y) (hk : k < L.length) (hne : ¬ x = y) : i / 2 ^ k % 2 = 1 := by
  refine app_det (L.drop k) _ x y h hne ?_
  rw [drop_getD hk]
  exact List.cons_ne_nil _ _
theorem det_step {L : List Int} {i k : Nat} {x y : Int} (h : detInv L i k x y) (hk : k < L.length) (hb : i / 2 ^ k % 2 = 1) : detInv L i (k + 1) (nd (L.getD k 0) x) (nd (L.getD k 0) y) := by
  unfold detInv at *
  rw [drop_getD hk, appL, appL, if_pos hb, if_pos hb, half_pow] at h
  exact (List.cons.inj h).2

set_option maxRecDepth 10000 in
set_option maxHeartbeats 4000000 in
theorem walk (d : Int) (ad : Option Addr) (cap : Nat) (l : List Int) (bd : Option Addr) (cbp : Nat) (m : List Int) (w : World) (_ : (Lit.int .i64 d).wf = true) (S : SlP w .u64 ad cap l) (T : SlP w .u64 bd cbp m) :
    Calls Try.prog 8 #[.int .i64 d, .slice ad l.length cap, .slice bd m.length cbp] w fun e w' => e = .returned (.bool true) ∧ Below w.heap.size w w' := by
  have hs := S.sl
  have ht := T.sl
  have hw := wfs_u64 S.wf
  have hx := wfs_u64 T.wf
  have hlc := S.le
  have hmc := T.le
  have cR := fun (W : World) (hs : Sl W .u64 ad l) => right_any d ad cap l W hs hw
  have cT := fun (W : World) (hs : Sl W .u64 bd m) => right_any d bd cbp m W hs hx
  clear S T
  by_cases h4 : 4 < d
  · clear cR cT
    go_enter Try.func8, Try.ntmps8
    go_wp2_with fail
    refine (awake36 _).mono ?_
    rintro ew1 w1 ⟨rfl, hb1⟩
    go_wp2_with fail
    refine (awake36 _).mono ?_
    rintro ew2 w2 ⟨rfl, hb2⟩
    go_wp2
    go_ret
    exact ⟨rfl, below2 hb1 hb2⟩
  have h4' : d ≤ 4 := by omega
  by_cases hr : rightB d l = true
  · rw [hr] at cR
    by_cases hq : rightB d m = true
    · rw [hq] at cT
      obtain ⟨d1, _, hl, hb⟩ := of_decide_eq_true hr
      obtain ⟨_, _, hm, hmb⟩ := of_decide_eq_true hq
      obtain ⟨n, rfl⟩ := Int.eq_ofNat_of_zero_le (show 0 ≤ d by omega)
      rw [Int.toNat_natCast] at hl hm
      have h1 : 1 ≤ n := by omega
      have h2 : n ≤ 12 := by omega
      have hp := (pow_le12 h2).2
      have hl4 : l.length ≤ 4096 := by omega
      have hm4 : m.length ≤ 4096 := by omega
      obtain ⟨N, hN⟩ : ∃ N : Nat, N = min l.length m.length := ⟨_, rfl⟩
      have hNl : N ≤ l.length := by omega
      have hNm : N ≤ m.length := by omega
      have hmin : min (l.length : Int) (m.length : Int) = (N : Int) := by omega
      clear hr hq d1
      replace hN := hide hN
      go_enter Try.func8, Try.ntmps8
      go_wp2_with fail
      refine (awake36 _).mono ?_
      rintro ew1 w1 ⟨rfl, hb1⟩
      go_wp2_with fail
      refine (cR w1 (hs.mono hb1)).mono ?_
      rintro e w2 ⟨rfl, hb2⟩
      replace hb2 := below2 hb1 hb2
      clear hb1 cR
      go_wp2_with fail
      refine (cT w2 (ht.mono hb2)).mono ?_
      rintro e w3 ⟨rfl, hb3⟩
      replace hb3 := below2 hb2 hb3
      clear hb2 cT
      go_wp2_with fail
      go_loopw [44] (fun t44 wr => ∃ i : Nat, i ≤ N ∧ t44 = .int .i64 i ∧ Below w.heap.size w wr ∧ Hid (l.take i = m.take i)) (fun t44 _ => N - (intOf t44).toNat)
      case atStart => exact ⟨0, by omega, rfl, hb3, hide rfl⟩
      case round =>
        clear hb3
        obtain ⟨i, hi, rfl, hB, hpre⟩ := hrel
        by_cases hlt : i < N
        · have hlt' : (i : Int) < N := by omega
          have hil : i < l.length := by omega
          have him : i < m.length := by omega
          obtain ⟨j, hj⟩ : ∃ j, j = i + 1 := ⟨_, rfl⟩
          have htl : (l.take j).length = j := by rw [List.length_take]; omega
          have htm : (m.take j).length = j := by rw [List.length_take]; omega
          have cG1 := fun (W : World) hs => grown_any n ad cap (l.take j) W hs (AllW.take hw j) h1 h2 (by omega) (fun x hx => hb x (List.mem_of_mem_take hx))
          have cG2 := fun (W : World) hs => grown_any n bd cbp (m.take j) W hs (AllW.take hx j) h1 h2 (by omega) (fun x hx => hmb x (List.mem_of_mem_take hx))
          rw [htl] at cG1
          rw [htm] at cG2
          obtain ⟨F1, hF1⟩ : ∃ F1, F1 = fro n (l.take j) := ⟨_, rfl⟩
          obtain ⟨F2, hF2⟩ : ∃ F2, F2 = fro n (m.take j) := ⟨_, rfl⟩
          rw [← hF1] at cG1
          rw [← hF2] at cG2
          have hFl1 : F1.length < 1099511627776 := by rw [hF1, fro_len]; omega
          have hij : (i : Int) + 1 = (j : Int) := by omega
          have hwj : IntKind.i64.wrap (j : Int) = j := by rw [IntKind.wrap_i64]; omega
          have hjc : j ≤ cap := by omega
          have hjd : j ≤ cbp := by omega
          replace hF1 := hide hF1
          replace hF2 := hide hF2
          clear htl htm
          replace hj := hide hj
          go_wp2_with fail
          refine (cG1 _ (Sl.take (hs.mono hB) j)).mono ?_
          rintro e w4 ⟨v4, rfl, o4, hb4⟩
          replace o4 := o4.low hB.size
          replace hB := below2 hB hb4
          obtain ⟨a4, c4, rfl, _, _, _⟩ := Own.sl o4
          clear cG1 hb4
          go_wp2_with fail
          refine name_calls fun W hW => ?_
          have g9 : Blk W w4.heap.size #[.int .i64 n, .int .i64 j, .slice a4 F1.length c4] 28 := by rw [hW]; exact Blk.newAt rfl
          replace hB : Below w.heap.size w W := by rw [hW]; exact hB.alloc hB.size _
          replace o4 : Own W w.heap.size 30 .u64 (.slice a4 F1.length c4) F1 := by rw [hW]; exact o4.alloc _
          clear hW
          generalize w4.heap.size = b9 at *
          refine (cG2 _ (Sl.take (ht.mono hB) j)).mono ?_
          rintro e w5 ⟨v5, rfl, o5, hb5⟩
          replace o5 := o5.low hB.size
          obtain ⟨a5, c5, rfl, _, _, _⟩ := Own.sl o5
          replace o4 := (o4.mono hb5).alloc (.cells #[.int .i64 n, .int .i64 j, .slice a5 F2.length c5] 28)
          replace g9 := (g9.mono hb5).alloc (.cells #[.int .i64 n, .int .i64 j, .slice a5 F2.length c5] 28)
          replace hB := (below2 hB hb5).alloc (below2 hB hb5).size (.cells #[.int .i64 n, .int .i64 j, .slice a5 F2.length c5] 28)
          replace o5 := o5.alloc (.cells #[.int .i64 n, .int .i64 j, .slice a5 F2.length c5] 28)
          have g11 : Blk (w5.alloc (.cells #[.int .i64 n, .int .i64 j, .slice a5 F2.length c5] 28)) w5.heap.size #[.int .i64 n, .int .i64 j, .slice a5 F2.length c5] 28 := Blk.newAt rfl
          clear cG2 hb5
          go_wp2_with fail
          generalize w5.heap.size = b11 at *
          generalize w5.alloc (.cells #[.int .i64 n, .int .i64 j, .slice a5 F2.length c5] 28) = w6 at *
          have k0 := cell_later' (g9.cell (j := 0) (v := .int .i64 n) rfl); have k1 := cell_later' (g9.cell (j := 1) (v := .int .i64 j) rfl); have k2 := cell_later' (g9.cell (j := 2) (v := .slice a4 F1.length c4) rfl)
          have k3 := cell_later' (g11.cell (j := 0) (v := .int .i64 n) rfl); have k4 := cell_later' (g11.cell (j := 1) (v := .int .i64 j) rfl); have k5 := cell_later' (g11.cell (j := 2) (v := .slice a5 F2.length c5) rfl)
          obtain ⟨_, _, he, s4, _, _⟩ := Own.sl o4
          injection he with he1 he2 he3
          subst he1
          clear he2 he3
          obtain ⟨_, _, he, s5, _, _⟩ := Own.sl o5
          injection he with he1 he2 he3
          subst he1
          clear he2 he3
          have cS := fun (ad ad' : Option Addr) (cap cap' : Nat) (W : World) hs ht => Same36_any n j n j ad ad' cap cap' F1 F2 W hs ht hFl1
          clear hFl1 g9 g11 o4 o5
          by_cases hF : F1 = F2
          · have es : sameB n j n j F1 F2 = true := by unfold sameB; simp [hF]
            rw [es] at cS
            replace hF := hide hF
            clear es
            refine wp_region_later Try.mixed (by kernel_rfl) ?_
            repeat (first | go_big_quiet_step (first | (go_at_call 27; exact Calls.later_of (back36_any _ _ _ _ _ _)) | (go_at_call 26; exact Calls.later_of (cS _ _ _ _ _ (s4.mono (below_later _ _)) (s5.mono (below_later _ _))))) | quiet_step (first | (go_at_call 27; exact Calls.later_of (back36_any _ _ _ _ _ _)) | (go_at_call 26; exact Calls.later_of (cS _ _ _ _ _ (s4.mono (below_later _ _)) (s5.mono (below_later _ _))))))
            refine wpQuiet_nil ?_
            intro w7 hb7
            replace hb7 := below_of_later hb7
            replace hB := below2 hB hb7
            clear k0 k1 k2 k3 k4 k5 s4 s5 cS hb7
            obtain ⟨bl, ol, rfl, _, hcl⟩ := (hs.mono hB).get hil
            obtain ⟨bm, om, rfl, _, hcm⟩ := (ht.mono hB).get him
            have hxb := hw.get hil
            have hyb := hx.get him
            have hst : l.take j = l.take i ++ [l.getD i 0] := by rw [hj.out, take_succ_getD l 0 hil]
            have hst2 : m.take j = m.take i ++ [m.getD i 0] := by rw [hj.out, take_succ_getD m 0 him]
            rw [← hpre.out] at hst2
            have hFe : fro n (l.take i ++ [l.getD i 0]) = fro n (l.take i ++ [m.getD i 0]) := by rw [← hst, ← hst2, ← hF1.out, ← hF2.out, hF.out]
            have hPl : (l.take i).length = i := by rw [List.length_take]; omega
            have hi2 : i < 2 ^ n := by omega
            rw [← fro_app n _ _ (by rw [hPl]; exact hi2), ← fro_app n _ _ (by rw [hPl]; exact hi2), hPl] at hFe
            obtain ⟨x, hxe⟩ : ∃ x, x = l.getD i 0 := ⟨_, rfl⟩
            obtain ⟨y, hye⟩ : ∃ y, y = m.getD i 0 := ⟨_, rfl⟩
            rw [← hxe] at hcl hxb hst hFe
            rw [← hye] at hcm hyb hst2 hFe
            have k0 := cell_later' hcl
            have k1 := cell_later' hcm
            replace hst := hide hst
            replace hst2 := hide hst2
            replace hxe := hide hxe
            replace hye := hide hye
            go_wp2_with fail
            by_cases hxy : x = y
            · have hne : (x != y) = false := by simp [hxy]
              replace hxy := hide hxy
              clear hFe
              refine wp_region_later Try.mixed (by kernel_rfl) ?_
              repeat (first | go_big_quiet_step (first | fail) | quiet_step (first | fail))
              refine wpQuiet_nil ?_
              intro w8 hb8
              replace hb8 := below_of_later hb8
              replace hB := below2 hB hb8
              clear k0 k1 hb8 hcl hcm
              go_wp2
              go_roundw
              case rel => exact ⟨j, by have := hj.out; omega, by go_num, hB, hide (by rw [hst.out, hst2.out, hxy.out])⟩
              case measure => simp [intOf]; omega
            · have hne : (x != y) = true := by simpa using hxy
              replace hxy := hide hxy
              refine wp_region_later Try.mixed (by kernel_rfl) ?_
              repeat (first | go_big_quiet_step (first | fail) | quiet_step (first | fail))
              refine wpQuiet_nil ?_
              intro w8 hb8
              replace hb8 := below_of_later hb8
              replace hB := below2 hB hb8
              replace hcl := cell_below hb8 hcl
              replace hcm := cell_below hb8 hcm
              clear k0 k1 hb8 hF hF1 hF2 hst hst2
              obtain ⟨G, hG⟩ : ∃ G : Nat → List Int, G = fun q => fro n (l.take q) := ⟨_, rfl⟩
              have hGe : ∀ q, fro n (l.take q) = G q := fun q => by rw [hG]
              have hG0 : fro n [] = G 0 := hGe 0
              have cN := fun W : World => rNew_any n W
              rw [(newL_nat h1 h2).1, (newL_nat h1 h2).2, hG0] at cN
              have cA : ∀ (q : Nat), q < i → ∀ (ad : Option Addr) (cap : Nat) (W : World), Sl W .u64 ad (G q) → Calls Try.prog 33 #[.agg #[.int .i64 n, .int .i64 q, .slice ad (G q).length cap], .int .u64 (l.getD q 0)] W (RetA W n (q + 1) (G (q + 1)) 0) := by
                intro q hq ad cap W hs
                have hql : q < l.length := by omega
                have hPq : (l.take q).length = q := by rw [List.length_take]; omega
                rw [← hGe q] at hs ⊢
                have := rAppend36_any n q (l.getD q 0) ad cap (fro n (l.take q)) W (hw.get hql) hs (fro_W n _ (AllW.take hw q)) (by rw [fro_len]; omega) (by omega)
                have hap := fro_append (x := l.getD q 0) (l := l.take q) h1 h2 (by rw [hPq]; omega) (fun x hx => hb x (List.mem_of_mem_take hx)) (hb _ (getD_mem hql))
                rw [hPq, ← take_succ_getD l 0 hql, hGe (q + 1)] at hap
                rw [hap.1, hap.2.1, hap.2.2.1, hap.2.2.2] at this
                exact this
              have hdet : Hid (detInv (G i) i 0 x y) := hide (by rw [← hGe i]; unfold detInv; simpa using hFe)
              have hLl : (G i).length = n + 1 := by rw [← hGe i]; exact fro_len _ _
              have hLw : AllW (G i) := by rw [← hGe i]; exact fro_W n _ (AllW.take hw i)
              have hic : i ≤ cap := by omega
              have hn12 : n ≤ 12 := h2
              clear hFe hG hGe hG0 hPl h1 h2 hb hmb hp hjc hjd hij hwj hpre hm hl hN hmin
              go_wp2_with fail
              refine (cN w8).mono ?_
              rintro e w9 ⟨v9, rfl, o9, hb9⟩
              replace o9 := (o9.low hB.size)
              obtain ⟨a9, c9, rfl, _, _, _⟩ := Own.sl o9
              replace o9 := o9.alloc (.cells #[.int .i64 n, .int .i64 0, .slice a9 (G 0).length c9] 24)
              replace hB := below2 hB hb9
              replace hcl := cell_below hb9 hcl
              replace hcm := cell_below hb9 hcm
              have hz := hB.size
              have hcl' := cell_below ((Below.refl _ _).alloc (Nat.le_refl _) (.cells #[.int .i64 n, .int .i64 0, .slice a9 (G 0).length c9] 24)) hcl
              have hcm' := cell_below ((Below.refl _ _).alloc (Nat.le_refl _) (.cells #[.int .i64 n, .int .i64 0, .slice a9 (G 0).length c9] 24)) hcm
              replace hB := hB.alloc hB.size (.cells #[.int .i64 n, .int .i64 0, .slice a9 (G 0).length c9] 24)
              have g13 : Blk (w9.alloc (.cells #[.int .i64 n, .int .i64 0, .slice a9 (G 0).length c9] 24)) w9.heap.size #[.int .i64 n, .int .i64 0, .slice a9 (G 0).length c9] 24 := Blk.newAt rfl
              clear cN hb9 hcl hcm hcl' hcm'
              go_wp2_with fail
              generalize w9.heap.size = b13 at *
              generalize w9.alloc (.cells #[.int .i64 n, .int .i64 0, .slice a9 (G 0).length c9] 24) = w10 at *
              go_loopw [86] (fun t86 wr => ∃ q : Nat, q ≤ i ∧ t86 = .int .i64 q ∧ Below w.heap.size w wr ∧ ∃ a c, Blk wr b13 #[.int .i64 n, .int .i64 q, .slice a (G q).length c] 24 ∧ Own wr w.heap.size 30 .u64 (.slice a (G q).length c) (G q)) (fun t86 _ => i - (intOf t86).toNat)
              case atStart => exact ⟨0, by omega, rfl, hB, _, _, g13, o9⟩
              case round =>
                clear hB g13 o9
                obtain ⟨q, hq, rfl, hB, a, c, gf, ho⟩ := hrel
                obtain ⟨_, _, he, sF, _, _⟩ := Own.sl ho
                injection he with he1 he2 he3
                subst he1
                clear he2 he3
                by_cases hqi : q < i
                · have hqi' : (q : Int) < i := by omega
                  have hql : q < l.length := by omega
                  obtain ⟨b2, o2, he, _, hc⟩ := (hs.mono hB).get hql
                  injection he with he
                  injection he with e1 e2
                  subst e1 e2
                  have cA2 := cA q hqi
                  obtain ⟨z, hz⟩ : ∃ z, z = l.getD q 0 := ⟨_, rfl⟩
                  rw [← hz] at hc cA2
                  obtain ⟨F', hF'⟩ : ∃ F', F' = G (q + 1) := ⟨_, rfl⟩
                  rw [← hF'] at cA2
                  have hlnq : Hid (G q = G q) := hide rfl
                  clear cA hdet hLl hLw hlnq hz
                  generalize G q = F at *
                  have k0 := gf.cell (j := 0) (v := .int .i64 n) rfl; have k1 := gf.cell (j := 1) (v := .int .i64 q) rfl; have k2 := gf.cell (j := 2) (v := .slice a F.length c) rfl
                  replace hF' := hide hF'
                  go_wp2_with fail
                  refine (cA2 _ _ _ sF).mono ?_
                  rintro e w11 ⟨v, rfl, o2, hb2⟩
                  obtain ⟨a2, c2, rfl, _, _, _⟩ := Own.sl o2
                  replace o2 := o2.low hB.size
                  replace gf := gf.mono hb2
                  replace hB := below2 hB hb2
                  have hn := own_ne_blk o2 gf (by decide)
                  clear cA2 hb2 k0 k1 k2 sF ho hc
                  have k0 := gf.cell (j := 0) (v := .int .i64 n) rfl; have k1 := gf.cell (j := 1) (v := .int .i64 q) rfl; have k2 := gf.cell (j := 2) (v := .slice a F.length c) rfl
                  have f := gf.free
                  go_wp2
                  go_roundw
                  case rel =>
                    refine ⟨q + 1, by omega, by go_num, below_set3 hB (by omega) _ _ _, a2, c2, ?_, ?_⟩
                    · rw [← hF'.out]
                      exact Blk.set3 gf
                    · rw [← hF'.out]
                      exact ((o2.other hn _).other hn _).other hn _
                  case measure => simp [intOf]; omega
                · have e : i = q := by omega
                  subst e
                  obtain ⟨b2, o2, he, _, hcl⟩ := (hs.mono hB).get hil
                  injection he with he
                  injection he with e1 e2
                  subst e1 e2
                  obtain ⟨b2, o2, he, _, hcm⟩ := (ht.mono hB).get him
                  injection he with he
                  injection he with e1 e2
                  subst e1 e2
                  rw [← hxe.out] at hcl
                  rw [← hye.out] at hcm
                  have k0 := cell_later' hcl
                  have k1 := cell_later' hcm
                  clear cA hqi hq
                  generalize G i = L at *
                  go_wp2_with fail
                  refine wp_region_later Try.mixed (by kernel_rfl) ?_
                  repeat (first | go_big_quiet_step (first | fail) | quiet_step (first | fail))
                  refine wpQuiet_nil ?_
                  intro w11 hb11
                  replace hb11 := below_of_later hb11
                  replace hB := below2 hB hb11
                  replace gf := gf.mono hb11
                  replace ho := ho.mono hb11
                  clear k0 k1 hb11 hcl hcm sF hxe hye hne hxy
                  go_wp2_with fail
                  go_loopw [16, 17, 18] (fun t16 t17 t18 wr => ∃ (k : Nat) (x y : Int), k ≤ n ∧ t18 = .int .i64 k ∧ t16 = .int .u64 x ∧ t17 = .int .u64 y ∧ (0 ≤ x ∧ x < 18446744073709551616) ∧ (0 ≤ y ∧ y < 18446744073709551616) ∧ Hid (detInv L i k x y) ∧ Below w.heap.size w wr ∧ Blk wr b13 #[.int .i64 n, .int .i64 i, .slice a L.length c] 24 ∧ Own wr w.heap.size 30 .u64 (.slice a L.length c) L) (fun _ _ t18 _ => n - (intOf t18).toNat)
                  case atStart => exact ⟨0, x, y, by omega, rfl, rfl, rfl, hxb, hyb, hdet, hB, gf, ho⟩
                  case round =>
                    clear hB gf ho hdet hxb hyb
                    obtain ⟨k, x, y, hk, rfl, rfl, rfl, hxb, hyb, hdet, hB, gf, ho⟩ := hrel
                    by_cases hxy : x = y
                    · have hne : (x != y) = false := by simp [hxy]
                      replace hxy := hide hxy
                      go_wp2
                      go_ret
                      exact ⟨rfl, hB⟩
                    · have hne : (x != y) = true := by simpa using hxy
                      have hkL : k < L.length := by omega
                      have hbit := det_bit hdet.out hkL hxy
                      have hkn : k < n := bit_lt hi2 hbit
                      have hnext := det_step hdet.out hkL hbit
                      have hm : ((i : Int) / 2 ^ k).tmod 2 = 1 := by
                        have e : ((2 : Int) ^ k) = ((2 ^ k : Nat) : Int) := (Int.natCast_pow 2 k).symm
                        rw [e, ← Int.natCast_ediv, Int.tmod_eq_emod_of_nonneg (Int.natCast_nonneg _)]
                        omega
                      replace hxy := hide hxy
                      obtain ⟨_, _, he, sF, _, _⟩ := Own.sl ho
                      injection he with he1 he2 he3
                      subst he1
                      clear he2 he3
                      obtain ⟨b2, o2, rfl, _, hc⟩ := sF.get hkL
                      have hzb := hLw.get hkL
                      obtain ⟨z, hz⟩ : ∃ z, z = L.getD k 0 := ⟨_, rfl⟩
                      rw [← hz] at hc hzb hnext
                      replace hz := hide hz
                      replace hbit := hide hbit
                      have cM := fun (v : Int) (W : World) hv => rNode_any z v W hzb hv
                      have k2 := cell_later' (gf.cell (j := 2) (v := .slice (some ⟨b2, o2, none⟩) L.length c) rfl)
                      have k3 := cell_later' hc
                      have n1 := nd_bd z x
                      have n2 := nd_bd z y
                      replace hnext := hide hnext
                      clear hdet
                      go_wp2_with fail
                      refine wp_region_later Try.mixed (by kernel_rfl) ?_
                      repeat (first | go_big_quiet_step (first | (go_at_call 37; refine Calls.later_of (cM _ _ ?_); first | exact hxb | exact hyb)) | quiet_step (first | (go_at_call 37; refine Calls.later_of (cM _ _ ?_); first | exact hxb | exact hyb)))
                      refine wpQuiet_nil ?_
                      intro w12 hb12
                      replace hb12 := below_of_later hb12
                      replace hB := below2 hB hb12
                      replace gf := gf.mono hb12
                      replace ho := ho.mono hb12
                      clear k2 k3 hb12 sF hc cM
                      go_wp2
                      go_roundw
                      case rel => exact ⟨k + 1, _, _, by omega, by go_num, rfl, rfl, n1, n2, hide hnext.out, hB, gf, ho⟩
                      case measure => simp [intOf]; omega
          · have es : sameB n j n j F1 F2 = false := by unfold sameB; simp [hF]
            rw [es] at cS
            replace hF := hide hF
            clear es
            refine wp_region_later Try.mixed (by kernel_rfl) ?_
            repeat (first | go_big_quiet_step (first | (go_at_call 27; exact Calls.later_of (back36_any _ _ _ _ _ _)) | (go_at_call 26; exact Calls.later_of (cS _ _ _ _ _ (s4.mono (below_later _ _)) (s5.mono (below_later _ _))))) | quiet_step (first | (go_at_call 27; exact Calls.later_of (back36_any _ _ _ _ _ _)) | (go_at_call 26; exact Calls.later_of (cS _ _ _ _ _ (s4.mono (below_later _ _)) (s5.mono (below_later _ _))))))
            refine wpQuiet_nil ?_
            intro w7 hb7
            replace hb7 := below_of_later hb7
            replace hB := below2 hB hb7
            clear k0 k1 k2 k3 k4 k5 s4 s5 cS hb7
            go_wp2
            go_ret
            exact ⟨rfl, hB⟩
        · go_wp2
          go_ret
          exact ⟨rfl, hB⟩
    · replace hq : rightB d m = false := by simpa using hq
      rw [hq] at cT
      clear hr hq
      go_enter Try.func8, Try.ntmps8
      go_wp2_with fail
      refine (awake36 _).mono ?_
      rintro ew1 w1 ⟨rfl, hb1⟩
      go_wp2_with fail
      refine (cR w1 (hs.mono hb1)).mono ?_
      rintro e w2 ⟨rfl, hb2⟩
      replace hb2 := below2 hb1 hb2
      clear hb1 cR
      go_wp2_with fail
      refine (cT w2 (ht.mono hb2)).mono ?_
      rintro e w3 ⟨rfl, hb3⟩
      replace hb3 := below2 hb2 hb3
      clear hb2 cT
      go_wp2_with fail
      refine (awake36 _).mono ?_
      rintro ew4 w4 ⟨rfl, hb4⟩
      go_wp2
      go_ret
      exact ⟨rfl, below2 hb3 hb4⟩
  · replace hr : rightB d l = false := by simpa using hr
    rw [hr] at cR
    clear hr cT
    go_enter Try.func8, Try.ntmps8
    go_wp2_with fail
    refine (awake36 _).mono ?_
    rintro ew1 w1 ⟨rfl, hb1⟩
    go_wp2_with fail
    refine (cR w1 (hs.mono hb1)).mono ?_
    rintro e w2 ⟨rfl, hb2⟩
    replace hb2 := below2 hb1 hb2
    clear hb1 cR
    go_wp2_with fail
    refine (awake36 _).mono ?_
    rintro ew3 w3 ⟨rfl, hb3⟩
    go_wp2
    go_ret
    exact ⟨rfl, below2 hb2 hb3⟩

set_option maxRecDepth 100000 in
theorem lifted (os : Os) (started : os.Started) (H : Type) (enc : TypeId × Value → H) :
    ReturnsInHanded {} Try.checked os 8 .any (Rows.frontierDeterminedSpec.pre6 enc Try.prog Try.f8 Rows.frontierDeterminedRow.domain false) (Rows.frontierDeterminedSpec.post enc Try.prog Try.f8 false true false false) := by
  refine returnsInHanded_of_change (C := Try.checked) own started (by kernel_rfl) Try.func8
    (ChangeSpec.witness6 (enc := enc) (C := Try.checked) false ⟨#[], #[.int .i64 0, .slice none 0 0, .slice none 0 0], []⟩ 8 (by kernel_rfl) (by kernel_rfl) (by kernel_rfl) (by kernel_rfl)) ?_
  intro W base args ds gs before hval0 hW hcnd _
  have hval : ∀ (j : Nat) t v, Try.f8.params[j]? = some t → args[j]? = some v → Value.okWide Try.prog W .any base t v := hval0
  have hW' := hW
  obtain ⟨p, q, hA0, hV, rfl, hfz, hnd⟩ := hW
  have hA : DataW.TrodAll enc Try.prog W 0 (fun _ => true) true Try.f8.params.toList args.toList ds p := hA0
  rw [Try.params8] at hA hval
  obtain ⟨v0, vs0, d0, ds0, p0, q0, hargs, rfl, rfl, h0, r0⟩ := trodAll_cons hA
  obtain ⟨v1, vs1, d1, ds1, p1, q1, rfl, rfl, rfl, h1, r1⟩ := trodAll_cons r0
  obtain ⟨v2, vs2, d2, ds2, p2, q2, rfl, rfl, rfl, h2, r2⟩ := trodAll_cons r1
  obtain ⟨rfl, rfl, rfl⟩ := trodAll_nil r2
  obtain rfl : args = #[v0, v1, v2] := by cases args; simp_all
  obtain ⟨rfl, rfl⟩ := trodVars_none hV
  have k1 := h1
  have k2 := h2
  obtain ⟨a0, rfl, rfl, rfl, w0⟩ := open_int Try.underlying3 (hval 0 3 v0 rfl rfl) h0
  obtain ⟨ad1, cap1, xs1, rfl, S1⟩ := open_slice Try.underlying22 Try.underlying30 (by kernel_rfl) h1 (hval 1 22 v1 rfl rfl) (fun x hx => hW'.lt x (by simp [hx]))
  obtain ⟨ad2, cap2, xs2, rfl, S2⟩ := open_slice Try.underlying22 Try.underlying30 (by kernel_rfl) h2 (hval 2 22 v2 rfl rfl) (fun x hx => hW'.lt x (by simp [hx]))
  clear hA0 hval0
  simp only [List.append_nil] at hW'
  refine (walk a0 ad1 cap1 xs1 ad2 cap2 xs2 W w0 S1 S2).mono fun e W' ⟨he, hg⟩ => ?_
  subst he
  exact ⟨_, rfl, post_of_below (pv := []) hW' (fun _ _ _ => (trodAll_cons_mk (shut_bool Try.underlying4 _) trodAll_mk0))
    (fun sp _ hsp => by subst hsp; exact (trodAll_cons_mk (shut_int Try.underlying3 w0) (trodAll_cons_mk (Below.trod Try.laidOut (by kernel_rfl) (of_decide_eq_true (by kernel_rfl)) k1 hg (fun x hx => hW'.lt x (by simp [hx]))) (trodAll_cons_mk (Below.trod Try.laidOut (by kernel_rfl) (of_decide_eq_true (by kernel_rfl)) k2 hg (fun x hx => hW'.lt x (by simp [hx]))) trodAll_mk0)))) (fun _ _ => rfl) (by simp) hg⟩

theorem closed : joinedFacts Try.prog 8 Try.f8 Rows.frontierDeterminedSpec Rows.frontierDeterminedRow = true := by
  unfold joinedFacts
  rw [Try.mayEnter, Try.liftsFinal, Try.make]
  kernel_rfl

theorem proved : Rows.FrontierDeterminedSaid :=
  OpenClaim.holds_of_wide 8 Try.f8 rfl rfl rfl rfl rfl rfl rfl ⟨rfl, rfl, rfl, rfl, rfl⟩ rfl rfl rfl rfl rfl (by kernel_rfl) Try.func8 closed
    (of_decide_eq_true (by kernel_rfl)) (by unfold Func.isWrapper; first | (rw [if_pos (by decide +kernel)]; kernel_rfl) | (rw [if_neg (by decide +kernel)]; exact ⟨rfl, rfl⟩))
    (fun os started H enc _ => lifted os started H enc)
#print axioms proved
end frontierDetermined
end Go.Proofs.Ythkdaoomnfgooaa
