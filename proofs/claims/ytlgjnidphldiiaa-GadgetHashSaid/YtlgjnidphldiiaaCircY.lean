/- Circuits: Valid of the reference's tables; hints. -/
import Derived.Test.YtlgjnidphldiiaaCircX
namespace Go.Proofs.Ytlgjnidphldiiaa
open Go.RowKit

set_option maxHeartbeats 1600000 in
theorem rTValid_any (p pub vars : Int) (ra : Option Addr) (R : List Rw) (rc : Nat) (w : World) (hR : RowsP w ra rc R) :
    Calls Try.prog 63 #[.agg #[.int .u64 p, .int .i64 pub, .int .i64 vars, .slice ra R.length rc]] w fun e w' => e = .returned (.bool (tblOk p pub vars R)) ∧ Below w.heap.size w w' := by
  have cS := fun W => rValid_any p W
  obtain ⟨V, hV⟩ : ∃ V, V = vld p := ⟨_, rfl⟩
  rw [← hV] at cS
  replace hV := hide hV
  go_enter Try.func63, Try.ntmps63
  go_wp2_with fail
  refine name_calls fun W hW => ?_
  have g0 : Blk W w.heap.size #[.int .u64 p, .int .i64 pub, .int .i64 vars, .slice ra R.length rc] 34 := by rw [hW]; exact Blk.newAt rfl
  have hB : Below w.heap.size w W := by rw [hW]; exact (Below.refl _ _).alloc (Nat.le_refl _) _
  clear hW
  refine (cS W).mono ?_
  rintro e w1 ⟨rfl, hb1⟩
  replace hB := below2 hB hb1
  replace g0 := g0.mono hb1
  clear hb1 cS
  have k0 := g0.cell (j := 0) (v := .int .u64 p) rfl; have k1 := g0.cell (j := 1) (v := .int .i64 pub) rfl; have k2 := g0.cell (j := 2) (v := .int .i64 vars) rfl; have k3 := g0.cell (j := 3) (v := .slice ra R.length rc) rfl
  cases V with
  | false =>
    have hF := hide (tbl_sizes (R := R) (p := p) (pub := pub) (vars := vars) (decide_eq_false fun hh => by rw [← hV.out] at hh; cases hh.1))
    go_wp2
    go_ret
    exact ⟨ret_bool' hF.out.symm, hB⟩
  | true =>
    by_cases h1 : pub < 0
    · have hF := hide (tbl_sizes (R := R) (p := p) (pub := pub) (vars := vars) (decide_eq_false fun hh => by have := hh.2.1; omega))
      go_wp2
      go_ret
      exact ⟨ret_bool' hF.out.symm, hB⟩
    by_cases h2 : vars ≤ pub
    · have hF := hide (tbl_sizes (R := R) (p := p) (pub := pub) (vars := vars) (decide_eq_false fun hh => by have := hh.2.2.1; omega))
      go_wp2
      go_ret
      exact ⟨ret_bool' hF.out.symm, hB⟩
    by_cases h3 : 65536 < vars
    · have hF := hide (tbl_sizes (R := R) (p := p) (pub := pub) (vars := vars) (decide_eq_false fun hh => by have := hh.2.2.2; omega))
      go_wp2
      go_ret
      exact ⟨ret_bool' hF.out.symm, hB⟩
    have hS := hide (show sizesOk p pub vars = true from decide_eq_true ⟨hV.out.symm, by omega, by omega, by omega⟩)
    by_cases hl : R.length ≤ 16384
    · have hl' : (R.length : Int) ≤ 16384 := by omega
      replace hR := hR.mono hB
      go_wp2_with fail
      go_loopw [3] (fun t3 wr => ∃ k : Nat, k ≤ R.length ∧ t3 = .int .i64 k ∧ Below w1.heap.size w1 wr ∧ Hid (∀ j, j < k → rowOk p vars (R.getD j default) = true)) (fun t3 _ => R.length - (intOf t3).toNat)
      case atStart => exact ⟨0, Nat.zero_le _, rfl, Below.refl _ _, hide fun j hj => by omega⟩
      case round =>
        obtain ⟨k, hk, rfl, hb, hU⟩ := hrel
        clear k0 k1 k2 k3
        have gr := g0.mono hb
        have k0 := gr.cell (j := 0) (v := .int .u64 p) rfl; have k1 := gr.cell (j := 1) (v := .int .i64 pub) rfl; have k2 := gr.cell (j := 2) (v := .int .i64 vars) rfl; have k3 := gr.cell (j := 3) (v := .slice ra R.length rc) rfl
        by_cases hlt : k < R.length
        · have hlt' : (k : Int) < R.length := by omega
          have hR' := hR.mono hb
          have m0 := cell_later' (gr.cell (j := 0) (v := .int .u64 p) rfl); have m1 := cell_later' (gr.cell (j := 1) (v := .int .i64 pub) rfl); have m2 := cell_later' (gr.cell (j := 2) (v := .int .i64 vars) rfl); have m3 := cell_later' (gr.cell (j := 3) (v := .slice ra R.length rc) rfl)
          obtain ⟨b, off, rfl, _, hc⟩ := hR'.s (by omega)
          obtain ⟨hc0, hc1, hc2⟩ := hc k hlt
          obtain ⟨hx, hy, hz⟩ := hR'.ok _ (getD_mem' hlt default)
          have hst := hide (fun h => tbl_stop (p := p) (pub := pub) (vars := vars) hlt h)
          have hnx := hide (fun h : rowOk p vars (R.getD k default) = true => fun j (hj : j < k + 1) => (by
            rcases Nat.lt_or_ge j k with h2 | h2
            · exact hU.out j h2
            · have : j = k := by omega
              subst this; exact h : rowOk p vars (R.getD j default) = true))
          clear hc hR' hU hR
          generalize R.getD k default = r at *
          obtain ⟨x, y, z⟩ := r
          simp only at hc0 hc1 hc2 hx hy hz
          replace hc0 := cell_later' hc0
          replace hc1 := cell_later' hc1
          replace hc2 := cell_later' hc2
          have cR := fun P => rRow_any p pub vars (some ⟨b, off, none⟩) R rc x y z (later wr P) (hx.mono (below_later _ _)) (hy.mono (below_later _ _)) (hz.mono (below_later _ _))
          have hro : rowOk p vars ⟨x, y, z⟩ = (linOk p vars x.l && linOk p vars y.l && linOk p vars z.l) := rfl
          rw [← hro] at cR
          clear hro
          generalize rowOk p vars ⟨x, y, z⟩ = q at *
          go_wp2_with fail
          refine wp_region_later Try.mixed (by kernel_rfl) ?_
          repeat (first | go_big_quiet_step (first | (go_at_call 107; exact Calls.later_of (cR _))) | quiet_step (first | (go_at_call 107; exact Calls.later_of (cR _))))
          refine wpQuiet_nil ?_
          intro w3 hb3
          replace hb3 := below_of_later hb3
          replace hb := below2 hb hb3
          clear hb3 cR hx hy hz hc0 hc1 hc2 k0 k1 k2 k3 m0 m1 m2 m3 gr
          cases q with
          | false =>
            have hF := hide (hst.out rfl)
            go_wp2
            go_ret
            exact ⟨ret_bool' hF.out.symm, below2 hB hb⟩
          | true =>
            have hN := hide (hnx.out rfl)
            clear hst hnx
            go_wp2
            go_roundw
            case rel => exact ⟨k + 1, by omega, by go_num, hb, hN⟩
            case measure => simp [intOf]; omega
        · obtain rfl : k = R.length := by omega
          have hF := hide (tbl_all hS.out hl hU.out)
          go_wp2
          go_ret
          exact ⟨ret_bool' hF.out.symm, below2 hB hb⟩
    · have hl' : (16384 : Int) < R.length := by omega
      have hF := hide (tbl_len (p := p) (pub := pub) (vars := vars) hl)
      clear hR hl
      go_wp2
      go_ret
      exact ⟨ret_bool' hF.out.symm, hB⟩

theorem hint_no {p v : Int} {h : Hn} (e : linOk p v h.a.l = false) : hintOk p v h = false := by unfold hintOk; rw [e]; rfl
theorem hint1 {p v : Int} {h : Hn} (e : linOk p v h.a.l = true) (k : h.k = 1) : hintOk p v h = (linOk p v h.b.l && decide (h.bit = 0)) := by unfold hintOk; rw [e, if_pos k]; rfl
theorem hint2 {p v : Int} {h : Hn} (e : linOk p v h.a.l = true) (k : h.k = 2) : hintOk p v h = (decide (h.b.l.length = 0) && decide (h.bit = 0)) := by unfold hintOk; rw [e, if_neg (by omega), if_pos k]; rfl
theorem hint3 {p v : Int} {h : Hn} (e : linOk p v h.a.l = true) (k : h.k = 3) : hintOk p v h = (decide (h.b.l.length = 0) && decide (0 ≤ h.bit ∧ h.bit ≤ 63)) := by unfold hintOk; rw [e, if_neg (by omega), if_neg (by omega), if_pos k]; rfl
theorem hint4 {p v : Int} {h : Hn} (k1 : h.k ≠ 1) (k2 : h.k ≠ 2) (k3 : h.k ≠ 3) : hintOk p v h = false := by unfold hintOk; rw [if_neg k1, if_neg k2, if_neg k3, Bool.and_false]

theorem hint_noB {p v : Int} {h : Hn} (e : linOk p v h.b.l = false) : hintOk p v h = false := by
  have hne : ¬ h.b.l.length = 0 := fun h0 => by
    rw [List.length_eq_zero_iff] at h0
    rw [h0, linOk_nil] at e
    cases e
  unfold hintOk
  rw [e, decide_eq_false hne]
  simp

end Go.Proofs.Ytlgjnidphldiiaa
