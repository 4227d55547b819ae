/- Exhaustive search, reference: complete. -/
import Derived.Test.YtlgjnidphldiiaaExN
namespace Go.Proofs.Ytlgjnidphldiiaa
open Go.ChangeShapes Go.WideShapes Go.ChangeAt Go.RowKit

theorem okAt_stop {p : Int} {R : List Rw} {W : List Int} {k : Nat} (hk : k < R.length) (hg : gtR (R.getD k default).val = W.length - 1) (hs : rowSat p W (R.getD k default) = false) : okAt p (R.map Rw.val) W = false := by
  unfold okAt
  rw [List.all_eq_false]
  refine ⟨(R.getD k default).val, ?_, by rw [show satB p W (R.getD k default).val = rowSat p W (R.getD k default) from rfl, hs]; decide⟩
  unfold rowsAt
  rw [List.mem_filter, beq_iff_eq]
  exact ⟨List.mem_map_of_mem (getD_mem' hk default), hg⟩
theorem okAt_all {p : Int} {R : List Rw} {W : List Int} (h : ∀ k, k < R.length → gtR (R.getD k default).val = W.length - 1 → rowSat p W (R.getD k default) = true) : okAt p (R.map Rw.val) W = true := by
  unfold okAt
  rw [List.all_eq_true]
  intro r hr
  unfold rowsAt at hr
  rw [List.mem_filter, beq_iff_eq] at hr
  obtain ⟨x, hx, rfl⟩ := List.mem_map.1 hr.1
  obtain ⟨k, hk, rfl⟩ := List.mem_iff_getElem.1 hx
  have := h k hk
  rw [List.getD_eq_getElem?_getD, List.getElem?_eq_getElem hk] at this
  exact this hr.2

set_option maxRecDepth 10000 in
set_option maxHeartbeats 16000000 in
theorem rComplete_any (p V : Nat) (pub : Int) (ra : Option Addr) (R : List Rw) (rc : Nat) (wa : Option Addr) (wc : Nat) (ws : List Int) (w : World) (hR : RowsP w ra rc R) (hW : Sl w .u64 wa ws) (hA : AllW ws) (hrow : ∀ r ∈ R, RowOk p V r.val) (hRl : R.length ≤ 16384) (hws : 1 ≤ ws.length ∧ ws.length ≤ 65536) :
    Calls Try.prog 105 #[.agg #[.int .u64 p, .int .i64 pub, .int .i64 V, .slice ra R.length rc], .slice wa ws.length wc] w fun e w' => e = .returned (.bool (okAt p (R.map Rw.val) ws)) ∧ Below w.heap.size w w' := by
  obtain ⟨n, hnl⟩ : ∃ n, R.length = n := ⟨_, rfl⟩
  obtain ⟨m, hml⟩ : ∃ m, ws.length = m := ⟨_, rfl⟩
  rw [hnl] at hRl
  rw [hml] at hws
  rw [hnl, hml]
  have hnI : (n : Int) ≤ 16384 := by omega
  have hmI : (m : Int) ≤ 65536 := by omega
  have hmI1 : (1 : Int) ≤ m := by omega
  obtain ⟨u, hu⟩ : ∃ u, u + 1 = m := ⟨m - 1, by omega⟩
  have hwm : (m : Int) - 1 = u := by omega
  have hwu : IntKind.i64.wrap (u : Int) = u := by rw [IntKind.wrap_i64]; omega
  have hum : ws.length - 1 = u := by omega
  have hstop := fun k hk hg hs => okAt_stop (p := p) (R := R) (W := ws) (k := k) hk hg hs
  have hall := fun h => okAt_all (p := p) (R := R) (W := ws) h
  rw [hum] at hstop hall
  obtain ⟨res, hres⟩ : ∃ res, okAt (p : Int) (R.map Rw.val) ws = res := ⟨_, rfl⟩
  rw [hres] at hstop hall
  rw [hres]
  replace hres := hide hres
  replace hnl := hide hnl
  replace hml := hide hml
  replace hrow := hide hrow
  replace hu := hide hu
  replace hum := hide hum
  replace hstop := hide hstop
  replace hall := hide hall
  obtain ⟨hws1, hws2⟩ := hws
  go_enter Try.func105, Try.ntmps105
  go_wp2_with fail
  refine name_world fun W hN => ?_
  have g0 : Blk W w.heap.size #[.int .u64 p, .int .i64 pub, .int .i64 V, .slice ra n rc] 34 := by rw [hN]; exact Blk.newAt rfl
  have hB : Below w.heap.size w W := by rw [hN]; exact (Below.refl _ _).alloc (Nat.le_refl _) _
  clear hN
  go_wp2_with fail
  go_loopw [6] (fun t6 wr => ∃ i : Nat, i ≤ n ∧ t6 = .int .i64 i ∧ Below w.heap.size w wr ∧ Blk wr w.heap.size #[.int .u64 p, .int .i64 pub, .int .i64 V, .slice ra n rc] 34 ∧ Hid (∀ k, k < i → gtR (R.getD k default).val = u → rowSat p ws (R.getD k default) = true)) (fun t6 _ => n - (intOf t6).toNat)
  case atStart => exact ⟨0, Nat.zero_le _, rfl, hB, g0, hide fun k hk => absurd hk (by omega)⟩
  case round =>
    clear hB g0
    obtain ⟨i, hi, rfl, hB, g0, hk⟩ := hrel
    have k3 := g0.cell (j := 3) (v := .slice ra n rc) rfl
    by_cases hlt : i < n
    · have hltI : (i : Int) < n := by omega
      have hi0 : (0 : Int) ≤ i := by omega
      have hiR : i < R.length := by have := hnl.out; omega
      have hR' := hR.mono hB
      obtain ⟨b, off, e, hbl, hc⟩ := hR'.s (by omega)
      obtain ⟨d0, d1, d2⟩ := hc i hiR
      obtain ⟨la, lb, lc⟩ := hR'.ok _ (getD_mem' hiR default)
      have hok1 := hrow.out _ (getD_mem' hiR default)
      have hst := hide (hstop.out i hiR)
      have hnx := hide (fun h : (gtR (R.getD i default).val = u → rowSat p ws (R.getD i default) = true) => fun k (hk2 : k < i + 1) => (by
        by_cases e : k = i
        · subst e; exact h
        · exact hk.out k (by omega) : gtR (R.getD k default).val = u → rowSat p ws (R.getD k default) = true))
      obtain ⟨r, hr⟩ : ∃ r, r = R.getD i default := ⟨_, rfl⟩
      rw [← hr] at d0 d1 d2 la lb lc hok1 hst hnx
      clear hr hc hR' hk
      subst e
      obtain ⟨⟨ra1, ra2⟩, ⟨rb1, rb2⟩, ⟨rc1, rc2⟩⟩ := hok1
      have cA := fun W (h : Below wr.heap.size wr W) => rLast_any r.a V W (la.mono h) (lin_mem ra1) (Nat.le_trans ra2 (by decide))
      have cB := fun W (h : Below wr.heap.size wr W) => rLast_any r.b V W (lb.mono h) (lin_mem rb1) (Nat.le_trans rb2 (by decide))
      have cC := fun W (h : Below wr.heap.size wr W) => rLast_any r.c V W (lc.mono h) (lin_mem rc1) (Nat.le_trans rc2 (by decide))
      have cH := fun W (h : Below wr.heap.size wr W) => rHolds_any p r.a r.b r.c wa wc ws W ((hW.mono hB).mono h) hA (la.mono h) (lb.mono h) (lc.mono h)
      rw [hml.out] at cH
      have hgR : gtR r.val = max (max (gtL r.a.l) (gtL r.b.l)) (gtL r.c.l) := rfl
      rw [hgR] at hst hnx
      replace hst : Hid (max (max (gtL r.a.l) (gtL r.b.l)) (gtL r.c.l) = u → rowSat p ws ⟨r.a, r.b, r.c⟩ = false → res = false) := hst
      replace hnx : Hid ((max (max (gtL r.a.l) (gtL r.b.l)) (gtL r.c.l) = u → rowSat p ws ⟨r.a, r.b, r.c⟩ = true) → ∀ k, k < i + 1 → gtR (R.getD k default).val = u → rowSat p ws (R.getD k default) = true) := hnx
      generalize gtL r.a.l = xa at *
      generalize gtL r.b.l = xb at *
      generalize gtL r.c.l = xc at *
      obtain ⟨q, hq⟩ : ∃ q, rowSat p ws ⟨r.a, r.b, r.c⟩ = q := ⟨_, rfl⟩
      rw [hq] at cH hst hnx
      clear hq ra1 ra2 rb1 rb2 rc1 rc2 hgR
      go_wp2_with fail
      refine name_calls fun w6 hN => ?_
      have g7 : Blk w6 wr.heap.size #[.slice r.a.ad r.a.l.length r.a.cap, .slice r.b.ad r.b.l.length r.b.cap, .slice r.c.ad r.c.l.length r.c.cap] 106 := by rw [hN]; exact Blk.newAt rfl
      have hbr : Below wr.heap.size wr w6 := by rw [hN]; exact (Below.refl _ _).alloc (Nat.le_refl _) _
      replace g0 := g0.mono hbr
      clear hN d0 d1 d2 k3 la lb lc
      refine (cA _ hbr).mono ?_
      rintro e wa ⟨rfl, hba⟩
      replace g0 := g0.mono hba
      replace g7 := g7.mono hba
      replace hbr := below2 hbr hba
      clear hba
      have m0 := g7.cell (j := 0) (v := .slice r.a.ad r.a.l.length r.a.cap) rfl; have m1 := g7.cell (j := 1) (v := .slice r.b.ad r.b.l.length r.b.cap) rfl; have m2 := g7.cell (j := 2) (v := .slice r.c.ad r.c.l.length r.c.cap) rfl; have k0 := g0.cell (j := 0) (v := .int .u64 p) rfl
      go_wp2_with fail
      refine (cB _ hbr).mono ?_
      rintro e wb ⟨rfl, hbb⟩
      replace g0 := g0.mono hbb
      replace g7 := g7.mono hbb
      replace hbr := below2 hbr hbb
      clear hbb m0 m1 m2 k0
      have m0 := g7.cell (j := 0) (v := .slice r.a.ad r.a.l.length r.a.cap) rfl; have m1 := g7.cell (j := 1) (v := .slice r.b.ad r.b.l.length r.b.cap) rfl; have m2 := g7.cell (j := 2) (v := .slice r.c.ad r.c.l.length r.c.cap) rfl; have k0 := g0.cell (j := 0) (v := .int .u64 p) rfl
      by_cases hb : xa < xb
      · have hbI : (xa : Int) < xb := by omega
        have m0 := g7.cell (j := 0) (v := .slice r.a.ad r.a.l.length r.a.cap) rfl; have m1 := g7.cell (j := 1) (v := .slice r.b.ad r.b.l.length r.b.cap) rfl; have m2 := g7.cell (j := 2) (v := .slice r.c.ad r.c.l.length r.c.cap) rfl; have k0 := g0.cell (j := 0) (v := .int .u64 p) rfl
        go_wp2_with fail
        refine (cB _ hbr).mono ?_
        rintro e we ⟨rfl, hbe⟩
        replace g0 := g0.mono hbe
        replace g7 := g7.mono hbe
        replace hbr := below2 hbr hbe
        clear hbe m0 m1 m2 k0
        have m0 := g7.cell (j := 0) (v := .slice r.a.ad r.a.l.length r.a.cap) rfl; have m1 := g7.cell (j := 1) (v := .slice r.b.ad r.b.l.length r.b.cap) rfl; have m2 := g7.cell (j := 2) (v := .slice r.c.ad r.c.l.length r.c.cap) rfl; have k0 := g0.cell (j := 0) (v := .int .u64 p) rfl
        go_wp2_with fail
        refine (cC _ hbr).mono ?_
        rintro e wc ⟨rfl, hbc⟩
        replace g0 := g0.mono hbc
        replace g7 := g7.mono hbc
        replace hbr := below2 hbr hbc
        clear hbc m0 m1 m2 k0
        have m0 := g7.cell (j := 0) (v := .slice r.a.ad r.a.l.length r.a.cap) rfl; have m1 := g7.cell (j := 1) (v := .slice r.b.ad r.b.l.length r.b.cap) rfl; have m2 := g7.cell (j := 2) (v := .slice r.c.ad r.c.l.length r.c.cap) rfl; have k0 := g0.cell (j := 0) (v := .int .u64 p) rfl
        by_cases hc : xb < xc
        · have hcI : (xb : Int) < xc := by omega
          have m0 := g7.cell (j := 0) (v := .slice r.a.ad r.a.l.length r.a.cap) rfl; have m1 := g7.cell (j := 1) (v := .slice r.b.ad r.b.l.length r.b.cap) rfl; have m2 := g7.cell (j := 2) (v := .slice r.c.ad r.c.l.length r.c.cap) rfl; have k0 := g0.cell (j := 0) (v := .int .u64 p) rfl
          go_wp2_with fail
          refine (cC _ hbr).mono ?_
          rintro e wd ⟨rfl, hbd⟩
          replace g0 := g0.mono hbd
          replace g7 := g7.mono hbd
          replace hbr := below2 hbr hbd
          clear hbd m0 m1 m2 k0
          have m0 := g7.cell (j := 0) (v := .slice r.a.ad r.a.l.length r.a.cap) rfl; have m1 := g7.cell (j := 1) (v := .slice r.b.ad r.b.l.length r.b.cap) rfl; have m2 := g7.cell (j := 2) (v := .slice r.c.ad r.c.l.length r.c.cap) rfl; have k0 := g0.cell (j := 0) (v := .int .u64 p) rfl
          by_cases hv : xc = u
          · have hmx : max (max xa xb) xc = u := by omega
            have hvI : (xc : Int) = u := by omega
            go_wp2_with fail
            refine (cH _ hbr).mono ?_
            rintro e wz ⟨rfl, hbz⟩
            replace g0 := g0.mono hbz
            replace hbr := below2 hbr hbz
            clear hbz m0 m1 m2 k0
            cases q with
            | false =>
              have hF := hide (hst.out hmx rfl)
              have hBn := below2 hB hbr
              clear hst hnx cA cB cC cH hmx hvI
              go_wp2
              go_ret
              exact ⟨ret_bool hF.out.symm, hBn⟩
            | true =>
              have hN2 := hide (hnx.out (fun _ => rfl))
              have hBn := below2 hB hbr
              clear hmx hvI hst hnx cA cB cC cH
              go_wp2
              go_roundw
              case rel => exact ⟨i + 1, by omega, by go_num, hBn, g0, hN2⟩
              case measure => simp [intOf]; omega
          · have hvI : ¬ (xc : Int) = u := by omega
            have hN2 := hide (hnx.out (fun h => absurd h (by omega)))
            have hBn := below2 hB hbr
            clear hst hnx cA cB cC cH
            go_wp2
            go_roundw
            case rel => exact ⟨i + 1, by omega, by go_num, hBn, g0, hN2⟩
            case measure => simp [intOf]; omega
        · have hcI : ¬ (xb : Int) < xc := by omega
          have m0 := g7.cell (j := 0) (v := .slice r.a.ad r.a.l.length r.a.cap) rfl; have m1 := g7.cell (j := 1) (v := .slice r.b.ad r.b.l.length r.b.cap) rfl; have m2 := g7.cell (j := 2) (v := .slice r.c.ad r.c.l.length r.c.cap) rfl; have k0 := g0.cell (j := 0) (v := .int .u64 p) rfl
          by_cases hv : xb = u
          · have hmx : max (max xa xb) xc = u := by omega
            have hvI : (xb : Int) = u := by omega
            go_wp2_with fail
            refine (cH _ hbr).mono ?_
            rintro e wz ⟨rfl, hbz⟩
            replace g0 := g0.mono hbz
            replace hbr := below2 hbr hbz
            clear hbz m0 m1 m2 k0
            cases q with
            | false =>
              have hF := hide (hst.out hmx rfl)
              have hBn := below2 hB hbr
              clear hst hnx cA cB cC cH hmx hvI
              go_wp2
              go_ret
              exact ⟨ret_bool hF.out.symm, hBn⟩
            | true =>
              have hN2 := hide (hnx.out (fun _ => rfl))
              have hBn := below2 hB hbr
              clear hmx hvI hst hnx cA cB cC cH
              go_wp2
              go_roundw
              case rel => exact ⟨i + 1, by omega, by go_num, hBn, g0, hN2⟩
              case measure => simp [intOf]; omega
          · have hvI : ¬ (xb : Int) = u := by omega
            have hN2 := hide (hnx.out (fun h => absurd h (by omega)))
            have hBn := below2 hB hbr
            clear hst hnx cA cB cC cH
            go_wp2
            go_roundw
            case rel => exact ⟨i + 1, by omega, by go_num, hBn, g0, hN2⟩
            case measure => simp [intOf]; omega
      · have hbI : ¬ (xa : Int) < xb := by omega
        have m0 := g7.cell (j := 0) (v := .slice r.a.ad r.a.l.length r.a.cap) rfl; have m1 := g7.cell (j := 1) (v := .slice r.b.ad r.b.l.length r.b.cap) rfl; have m2 := g7.cell (j := 2) (v := .slice r.c.ad r.c.l.length r.c.cap) rfl; have k0 := g0.cell (j := 0) (v := .int .u64 p) rfl
        go_wp2_with fail
        refine (cC _ hbr).mono ?_
        rintro e wc ⟨rfl, hbc⟩
        replace g0 := g0.mono hbc
        replace g7 := g7.mono hbc
        replace hbr := below2 hbr hbc
        clear hbc m0 m1 m2 k0
        have m0 := g7.cell (j := 0) (v := .slice r.a.ad r.a.l.length r.a.cap) rfl; have m1 := g7.cell (j := 1) (v := .slice r.b.ad r.b.l.length r.b.cap) rfl; have m2 := g7.cell (j := 2) (v := .slice r.c.ad r.c.l.length r.c.cap) rfl; have k0 := g0.cell (j := 0) (v := .int .u64 p) rfl
        by_cases hc : xa < xc
        · have hcI : (xa : Int) < xc := by omega
          have m0 := g7.cell (j := 0) (v := .slice r.a.ad r.a.l.length r.a.cap) rfl; have m1 := g7.cell (j := 1) (v := .slice r.b.ad r.b.l.length r.b.cap) rfl; have m2 := g7.cell (j := 2) (v := .slice r.c.ad r.c.l.length r.c.cap) rfl; have k0 := g0.cell (j := 0) (v := .int .u64 p) rfl
          go_wp2_with fail
          refine (cC _ hbr).mono ?_
          rintro e wd ⟨rfl, hbd⟩
          replace g0 := g0.mono hbd
          replace g7 := g7.mono hbd
          replace hbr := below2 hbr hbd
          clear hbd m0 m1 m2 k0
          have m0 := g7.cell (j := 0) (v := .slice r.a.ad r.a.l.length r.a.cap) rfl; have m1 := g7.cell (j := 1) (v := .slice r.b.ad r.b.l.length r.b.cap) rfl; have m2 := g7.cell (j := 2) (v := .slice r.c.ad r.c.l.length r.c.cap) rfl; have k0 := g0.cell (j := 0) (v := .int .u64 p) rfl
          by_cases hv : xc = u
          · have hmx : max (max xa xb) xc = u := by omega
            have hvI : (xc : Int) = u := by omega
            go_wp2_with fail
            refine (cH _ hbr).mono ?_
            rintro e wz ⟨rfl, hbz⟩
            replace g0 := g0.mono hbz
            replace hbr := below2 hbr hbz
            clear hbz m0 m1 m2 k0
            cases q with
            | false =>
              have hF := hide (hst.out hmx rfl)
              have hBn := below2 hB hbr
              clear hst hnx cA cB cC cH hmx hvI
              go_wp2
              go_ret
              exact ⟨ret_bool hF.out.symm, hBn⟩
            | true =>
              have hN2 := hide (hnx.out (fun _ => rfl))
              have hBn := below2 hB hbr
              clear hmx hvI hst hnx cA cB cC cH
              go_wp2
              go_roundw
              case rel => exact ⟨i + 1, by omega, by go_num, hBn, g0, hN2⟩
              case measure => simp [intOf]; omega
          · have hvI : ¬ (xc : Int) = u := by omega
            have hN2 := hide (hnx.out (fun h => absurd h (by omega)))
            have hBn := below2 hB hbr
            clear hst hnx cA cB cC cH
            go_wp2
            go_roundw
            case rel => exact ⟨i + 1, by omega, by go_num, hBn, g0, hN2⟩
            case measure => simp [intOf]; omega
        · have hcI : ¬ (xa : Int) < xc := by omega
          have m0 := g7.cell (j := 0) (v := .slice r.a.ad r.a.l.length r.a.cap) rfl; have m1 := g7.cell (j := 1) (v := .slice r.b.ad r.b.l.length r.b.cap) rfl; have m2 := g7.cell (j := 2) (v := .slice r.c.ad r.c.l.length r.c.cap) rfl; have k0 := g0.cell (j := 0) (v := .int .u64 p) rfl
          by_cases hv : xa = u
          · have hmx : max (max xa xb) xc = u := by omega
            have hvI : (xa : Int) = u := by omega
            go_wp2_with fail
            refine (cH _ hbr).mono ?_
            rintro e wz ⟨rfl, hbz⟩
            replace g0 := g0.mono hbz
            replace hbr := below2 hbr hbz
            clear hbz m0 m1 m2 k0
            cases q with
            | false =>
              have hF := hide (hst.out hmx rfl)
              have hBn := below2 hB hbr
              clear hst hnx cA cB cC cH hmx hvI
              go_wp2
              go_ret
              exact ⟨ret_bool hF.out.symm, hBn⟩
            | true =>
              have hN2 := hide (hnx.out (fun _ => rfl))
              have hBn := below2 hB hbr
              clear hmx hvI hst hnx cA cB cC cH
              go_wp2
              go_roundw
              case rel => exact ⟨i + 1, by omega, by go_num, hBn, g0, hN2⟩
              case measure => simp [intOf]; omega
          · have hvI : ¬ (xa : Int) = u := by omega
            have hN2 := hide (hnx.out (fun h => absurd h (by omega)))
            have hBn := below2 hB hbr
            clear hst hnx cA cB cC cH
            go_wp2
            go_roundw
            case rel => exact ⟨i + 1, by omega, by go_num, hBn, g0, hN2⟩
            case measure => simp [intOf]; omega
    · obtain rfl : i = n := by omega
      have hF := hide (hall.out (by rw [hnl.out]; exact hk.out))
      go_wp2
      go_ret
      exact ⟨ret_bool hF.out.symm, hB⟩
end Go.Proofs.Ytlgjnidphldiiaa
