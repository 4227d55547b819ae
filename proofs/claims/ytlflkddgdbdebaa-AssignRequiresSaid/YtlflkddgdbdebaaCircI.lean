/- Circuits: Satisfied of the reference; below. -/
import Derived.Test.YtlflkddgdbdebaaCircG
namespace Go.Proofs.Ytlflkddgdbdebaa
open Go.RowKit

set_option maxHeartbeats 1600000 in
theorem rFirst_any (p pub vars : Int) (ra : Option Addr) (R : List Rw) (rc : Nat) (wa : Option Addr) (wc : Nat) (ws : List Int) (w : World) (hR : RowsP w ra rc R) (hW : Sl w .u64 wa ws) (hA : AllW ws) (hT : tblOk p pub vars R = true) (hAsn : asnOk p vars ws = true) :
    Calls Try.prog 77 #[.agg #[.int .u64 p, .int .i64 pub, .int .i64 vars, .slice ra R.length rc], .slice wa ws.length wc] w (RetU p ws R w) := by
  have cT := fun W h => rTValid_any p pub vars ra R rc W h
  have cA := fun W h1 h2 h3 => rAsn_any p pub vars ra R rc wa wc ws W h1 hA h2 h3
  obtain ⟨_, hp0, hp1, hp2, hl16⟩ := tbl_bd hT
  rw [hT] at cT
  rw [hAsn] at cA
  clear hT hAsn
  go_enter Try.func77, Try.ntmps77
  go_wp2_with fail
  refine name_calls fun W hN => ?_
  have g0 : Blk W w.heap.size #[.int .u64 p, .int .i64 pub, .int .i64 vars, .slice ra R.length rc] 25 := by rw [hN]; exact Blk.newAt rfl
  have hB : Below w.heap.size w W := by rw [hN]; exact (Below.refl _ _).alloc (Nat.le_refl _) _
  clear hN
  refine (cT W (hR.mono hB)).mono ?_
  rintro e w1 ⟨rfl, hb1⟩
  replace hB := below2 hB hb1
  replace g0 := g0.mono hb1
  clear hb1 cT
  have k0 := g0.cell (j := 0) (v := .int .u64 p) rfl; have k1 := g0.cell (j := 1) (v := .int .i64 pub) rfl; have k2 := g0.cell (j := 2) (v := .int .i64 vars) rfl; have k3 := g0.cell (j := 3) (v := .slice ra R.length rc) rfl
  go_wp2_with fail
  refine (cA w1 (hW.mono hB) (by omega) hp2).mono ?_
  rintro e w2 ⟨rfl, hb2⟩
  replace hB := below2 hB hb2
  replace g0 := g0.mono hb2
  clear hb2 cA k0 k1 k2 k3
  go_wp2_with fail
  go_loopw [5] (fun t5 wr => ∃ k : Nat, k ≤ R.length ∧ t5 = .int .i64 k ∧ Below w.heap.size w wr ∧ Blk wr w.heap.size #[.int .u64 p, .int .i64 pub, .int .i64 vars, .slice ra R.length rc] 25 ∧ Hid (∀ j, j < k → rowSat p ws (R.getD j default) = true)) (fun t5 _ => R.length - (intOf t5).toNat)
  case atStart => exact ⟨0, Nat.zero_le _, rfl, hB, g0, hide fun j hj => by omega⟩
  case round =>
    clear hB g0
    obtain ⟨k, hk, rfl, hb, g0, hU⟩ := hrel
    have k0 := g0.cell (j := 0) (v := .int .u64 p) rfl; have k1 := g0.cell (j := 1) (v := .int .i64 pub) rfl; have k2 := g0.cell (j := 2) (v := .int .i64 vars) rfl; have k3 := g0.cell (j := 3) (v := .slice ra R.length rc) rfl
    by_cases hlt : k < R.length
    · have hlt' : (k : Int) < R.length := by omega
      have hR' := hR.mono hb
      have m0 := cell_later' (g0.cell (j := 0) (v := .int .u64 p) rfl); have m1 := cell_later' (g0.cell (j := 1) (v := .int .i64 pub) rfl); have m2 := cell_later' (g0.cell (j := 2) (v := .int .i64 vars) rfl); have m3 := cell_later' (g0.cell (j := 3) (v := .slice ra R.length rc) rfl)
      obtain ⟨b, off, e, _, hc⟩ := hR'.s (by omega)
      obtain ⟨hc0, hc1, hc2⟩ := hc k hlt
      obtain ⟨hx, hy, hz⟩ := hR'.ok _ (getD_mem' hlt default)
      have hst := hide (fun h => rs_stop (p := p) (W := ws) hlt h)
      have hnx := hide (fun h : rowSat p ws (R.getD k default) = true => fun j (hj : j < k + 1) => (by
        rcases Nat.lt_or_ge j k with h2 | h2
        · exact hU.out j h2
        · have : j = k := by omega
          subst this; exact h : rowSat p ws (R.getD j default) = true))
      clear hc hR' hU hR
      generalize R.getD k default = r at *
      obtain ⟨x, y, z⟩ := r
      simp only at hc0 hc1 hc2 hx hy hz
      have hWW := hW.mono hb
      have cH := fun P => rHolds_any p x y z wa wc ws (later wr P) (hWW.mono (below_later _ _)) hA (hx.mono (below_later _ _)) (hy.mono (below_later _ _)) (hz.mono (below_later _ _))
      replace hc0 := cell_later' hc0
      replace hc1 := cell_later' hc1
      replace hc2 := cell_later' hc2
      generalize rowSat p ws ⟨x, y, z⟩ = q at *
      subst e
      clear hx hy hz hW hWW hA
      go_wp2_with fail
      refine wp_region_later Try.mixed (by kernel_rfl) ?_
      repeat (first | go_big_quiet_step (first | (go_at_call 87; exact Calls.later_of (cH _))) | quiet_step (first | (go_at_call 87; exact Calls.later_of (cH _))))
      refine wpQuiet_nil ?_
      intro w3 hb3
      replace hb3 := below_of_later hb3
      replace hb := below2 hb hb3
      replace g0 := g0.mono hb3
      clear cH hb3 hc0 hc1 hc2 k0 k1 k2 k3 m0 m1 m2 m3
      cases q with
      | false =>
        have hF := hide (hst.out rfl)
        clear hst hnx
        go_wp2
        go_ret
        exact RetU.no k hF.out hb
      | true =>
        have hN := hide (hnx.out rfl)
        clear hst hnx
        go_wp2
        go_roundw
        case rel => exact ⟨k + 1, by omega, by go_num, hb, g0, hN⟩
        case measure => simp [intOf]; omega
    · obtain rfl : k = R.length := by omega
      have hF := hide (rs_all hU.out)
      go_wp2
      go_ret
      exact RetU.all hF.out hb

set_option maxHeartbeats 1600000 in
theorem rSat_any (p pub vars : Int) (ra : Option Addr) (R : List Rw) (rc : Nat) (wa : Option Addr) (wc : Nat) (ws : List Int) (w : World) (hR : RowsP w ra rc R) (hW : Sl w .u64 wa ws) (hA : AllW ws) :
    Calls Try.prog 47 #[.agg #[.int .u64 p, .int .i64 pub, .int .i64 vars, .slice ra R.length rc], .slice wa ws.length wc] w fun e w' => e = .returned (.bool (satOk p pub vars R ws)) ∧ Below w.heap.size w w' := by
  have cT := fun W h => rTValid_any p pub vars ra R rc W h
  have cA := fun W h1 h2 h3 => rAsn_any p pub vars ra R rc wa wc ws W h1 hA h2 h3
  have cU := fun W h1 h2 h3 h4 => rFirst_any p pub vars ra R rc wa wc ws W h1 h2 hA h3 h4
  have hs : satOk p pub vars R ws = (tblOk p pub vars R && asnOk p vars ws && rowsSat p ws R) := rfl
  obtain ⟨T, hT⟩ : ∃ T, T = tblOk p pub vars R := ⟨_, rfl⟩
  obtain ⟨A, hAs⟩ : ∃ A, A = asnOk p vars ws := ⟨_, rfl⟩
  rw [← hT] at cT hs cU
  rw [← hAs] at cA hs cU
  replace hT := hide hT
  replace hAs := hide hAs
  generalize satOk p pub vars R ws = S at *
  replace hs := hide hs
  go_enter Try.func47, Try.ntmps47
  go_wp2_with fail
  refine name_calls fun W hN => ?_
  have g0 : Blk W w.heap.size #[.int .u64 p, .int .i64 pub, .int .i64 vars, .slice ra R.length rc] 25 := by rw [hN]; exact Blk.newAt rfl
  have hB : Below w.heap.size w W := by rw [hN]; exact (Below.refl _ _).alloc (Nat.le_refl _) _
  clear hN
  refine (cT W (hR.mono hB)).mono ?_
  rintro e w1 ⟨rfl, hb1⟩
  replace hB := below2 hB hb1
  replace g0 := g0.mono hb1
  clear hb1 cT
  have k0 := g0.cell (j := 0) (v := .int .u64 p) rfl; have k1 := g0.cell (j := 1) (v := .int .i64 pub) rfl; have k2 := g0.cell (j := 2) (v := .int .i64 vars) rfl; have k3 := g0.cell (j := 3) (v := .slice ra R.length rc) rfl
  cases T with
  | false =>
    have hF := hide (show S = false by rw [hs.out]; rfl)
    clear cA cU hs
    go_wp2
    go_ret
    exact ⟨ret_bool' hF.out.symm, hB⟩
  | true =>
    obtain ⟨_, hp0, hp1, hp2, hp3⟩ := tbl_bd hT.out.symm
    replace cU := hide cU
    go_wp2_with fail
    refine (cA w1 (hW.mono hB) (by omega) hp2).mono ?_
    rintro e w2 ⟨rfl, hb2⟩
    replace hB := below2 hB hb2
    replace g0 := g0.mono hb2
    clear hb2 cA k0 k1 k2 k3
    have k0 := g0.cell (j := 0) (v := .int .u64 p) rfl; have k1 := g0.cell (j := 1) (v := .int .i64 pub) rfl; have k2 := g0.cell (j := 2) (v := .int .i64 vars) rfl; have k3 := g0.cell (j := 3) (v := .slice ra R.length rc) rfl
    cases A with
    | false =>
      have hF := hide (show S = false by rw [hs.out]; rfl)
      clear cU hs
      go_wp2
      go_ret
      exact ⟨ret_bool' hF.out.symm, hB⟩
    | true =>
      go_wp2_with fail
      refine (cU.out w2 (hR.mono hB) (hW.mono hB) (by first | rfl | trivial) (by first | rfl | trivial)).mono ?_
      rintro e w3 ⟨i, rfl, hi, hb3⟩
      replace hB := below2 hB hb3
      clear hb3 cU k0 k1 k2 k3
      have hF := hide (show S = decide (i < 0) by rw [hs.out]; simp only [Bool.true_and, hi]; cases rowsSat p ws R <;> rfl)
      clear hs hi
      go_wp2
      go_ret
      exact ⟨ret_bool' hF.out.symm, hB⟩

def allLt (p : Int) (l : List Int) : Bool := decide (∀ i, i < l.length → l.getD i 0 < p)
theorem allLt_stop {p : Int} {W : List Int} {k : Nat} (hk : k < W.length) (h : p ≤ W.getD k 0) : allLt p W = false := by
  unfold allLt
  exact decide_eq_false fun hh => by have := hh k hk; omega
theorem allLt_all {p : Int} {W : List Int} (h2 : ∀ k, k < W.length → W.getD k 0 < p) : allLt p W = true := decide_eq_true h2

set_option maxHeartbeats 1600000 in
theorem below_any (p : Int) (wa : Option Addr) (wc : Nat) (ws : List Int) (w : World) (hW : Sl w .u64 wa ws) (hA : AllW ws) (hl16 : ws.length ≤ 65536) :
    Calls Try.prog 41 #[.slice wa ws.length wc, .int .u64 p] w fun e w' => e = .returned (.bool (allLt p ws)) ∧ Below w.heap.size w w' := by
  go_enter Try.func41, Try.ntmps41
  go_wp2_with fail
  go_loopw [9] (fun t9 wr => ∃ k : Nat, k ≤ ws.length ∧ t9 = .int .i64 k ∧ Below w.heap.size w wr ∧ Hid (∀ j, j < k → ws.getD j 0 < p)) (fun t9 _ => ws.length - (intOf t9).toNat)
  case atStart => exact ⟨0, Nat.zero_le _, rfl, Below.refl _ _, hide fun j hj => by omega⟩
  case round =>
    obtain ⟨k, hk, rfl, hb, hU⟩ := hrel
    by_cases hlt : k < ws.length
    · have hlt' : (k : Int) < ws.length := by omega
      obtain ⟨b2, off2, rfl, _, hd⟩ := (hW.mono hb).get hlt
      have hst := hide (fun h => allLt_stop (p := p) hlt h)
      have hnx := hide (fun h : ws.getD k 0 < p => fun j (hj : j < k + 1) => (by
        rcases Nat.lt_or_ge j k with h2 | h2
        · exact hU.out j h2
        · have : j = k := by omega
          subst this; exact h : ws.getD j 0 < p))
      have hxr := hA.get hlt
      generalize ws.getD k 0 = y at *
      by_cases hy : p ≤ y
      · have hF := hide (hst.out hy)
        clear hst hnx hU
        go_wp2
        go_ret
        exact ⟨ret_bool' hF.out.symm, hb⟩
      · have hN := hide (hnx.out (by omega))
        clear hst hnx hU
        go_wp2
        go_roundw
        case rel => exact ⟨k + 1, by omega, by go_num, hb, hN⟩
        case measure => simp [intOf]; omega
    · obtain rfl : k = ws.length := by omega
      have hF := hide (allLt_all hU.out)
      go_wp2
      go_ret
      exact ⟨ret_bool' hF.out.symm, hb⟩
end Go.Proofs.Ytlflkddgdbdebaa
