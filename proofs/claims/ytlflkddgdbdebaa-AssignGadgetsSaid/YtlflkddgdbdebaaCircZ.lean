/- Circuits: Valid and Small of circuits, of the program and of the reference. -/
import Derived.Test.YtlflkddgdbdebaaCircY
namespace Go.Proofs.Ytlflkddgdbdebaa
open Go.RowKit

theorem cir_tbl {p pub vars sec : Int} {R : List Rw} {H : List Hn} (h : tblOk p pub vars R = false) : cirOk p pub vars R sec H = false := by
  unfold cirOk
  exact decide_eq_false fun hh => by rw [h] at hh; cases hh.1
theorem cir_sizes {p pub vars sec : Int} {R : List Rw} {H : List Hn} (h : ¬ (0 ≤ sec ∧ vars = 1 + pub + sec + H.length)) : cirOk p pub vars R sec H = false := by
  unfold cirOk
  exact decide_eq_false fun hh => h ⟨hh.2.1, hh.2.2.1⟩
theorem cir_stop {p pub vars sec : Int} {R : List Rw} {H : List Hn} {k : Nat} (hk : k < H.length) (h : hintOk p (1 + pub + sec + k) (H.getD k default) = false) : cirOk p pub vars R sec H = false := by
  unfold cirOk
  exact decide_eq_false fun hh => by have := hh.2.2.2 k hk; rw [h] at this; cases this
theorem cir_all {p pub vars sec : Int} {R : List Rw} {H : List Hn} (h1 : tblOk p pub vars R = true) (h2 : 0 ≤ sec ∧ vars = 1 + pub + sec + H.length) (h : ∀ k, k < H.length → hintOk p (1 + pub + sec + k) (H.getD k default) = true) : cirOk p pub vars R sec H = true := by
  unfold cirOk
  exact decide_eq_true ⟨h1, h2.1, h2.2, h⟩
theorem tbl_bd {p pub vars : Int} {R : List Rw} (h : tblOk p pub vars R = true) : vld p = true ∧ 0 ≤ pub ∧ pub < vars ∧ vars ≤ 65536 ∧ R.length ≤ 16384 := by
  have hh := of_decide_eq_true h
  exact ⟨hh.1.1, hh.1.2.1, hh.1.2.2.1, hh.1.2.2.2, hh.2.1⟩

set_option maxHeartbeats 1600000 in
theorem aCValid_any (p pub vars : Int) (ra : Option Addr) (R : List Rw) (rc : Nat) (sec : Int) (ha : Option Addr) (H : List Hn) (hc : Nat) (w : World) (hR : RowsP w ra rc R) (hH : HintsP w ha hc H) (hs : (Lit.int .i64 sec).wf = true) :
    Calls Try.prog 12 #[.agg #[.int .u64 p, .int .i64 pub, .int .i64 vars, .slice ra R.length rc, .int .i64 sec, .slice ha H.length hc]] w fun e w' => e = .returned (.bool (cirOk p pub vars R sec H)) ∧ Below w.heap.size w w' := by
  have cT := fun W h => tValid_any p pub vars ra R rc W h
  have hsb := wf_i hs
  have hHl := hints_len hH
  clear hs
  obtain ⟨T, hT⟩ : ∃ T, T = tblOk p pub vars R := ⟨_, rfl⟩
  rw [← hT] at cT
  replace hT := hide hT
  replace hHl := hide hHl
  go_enter Try.func12, Try.ntmps12
  go_wp2_with fail
  refine name_calls fun W hW => ?_
  have g0 : Blk W w.heap.size #[.int .u64 p, .int .i64 pub, .int .i64 vars, .slice ra R.length rc, .int .i64 sec, .slice ha H.length hc] 28 := by rw [hW]; exact (Blk.newAt rfl).alloc _
  have g1 : Blk W (w.heap.size + 1) #[.int .u64 p, .int .i64 pub, .int .i64 vars, .slice ra R.length rc] 25 := by rw [hW]; exact Blk.newAt (by simp)
  have hB : Below w.heap.size w W := by rw [hW]; exact ((Below.refl _ _).alloc (Nat.le_refl _) _).alloc (by simp) _
  clear hW
  refine (cT W (hR.mono hB)).mono ?_
  rintro e w1 ⟨rfl, hb1⟩
  replace hB := below2 hB hb1
  replace g0 := g0.mono hb1
  replace g1 := g1.mono hb1
  replace hH := hH.mono hB
  clear hb1 cT hR
  have k0 := g0.cell (j := 0) (v := .int .u64 p) rfl; have k1 := g0.cell (j := 1) (v := .int .i64 pub) rfl; have k2 := g0.cell (j := 2) (v := .int .i64 vars) rfl; have k3 := g0.cell (j := 3) (v := .slice ra R.length rc) rfl; have k4 := g0.cell (j := 4) (v := .int .i64 sec) rfl; have k5 := g0.cell (j := 5) (v := .slice ha H.length hc) rfl
  have m0 := g1.cell (j := 0) (v := .int .u64 p) rfl; have m1 := g1.cell (j := 1) (v := .int .i64 pub) rfl; have m2 := g1.cell (j := 2) (v := .int .i64 vars) rfl; have m3 := g1.cell (j := 3) (v := .slice ra R.length rc) rfl
  cases T with
  | false =>
    have hF := hide (cir_tbl (sec := sec) (H := H) hT.out.symm)
    go_wp2
    go_ret
    exact ⟨ret_bool' hF.out.symm, hB⟩
  | true =>
    obtain ⟨_, hp0, hp1, hp2, _⟩ := tbl_bd hT.out.symm
    by_cases h1 : sec < 0
    · have hF := hide (cir_sizes (p := p) (pub := pub) (vars := vars) (R := R) (sec := sec) (H := H) fun h => by omega)
      go_wp2
      go_ret
      exact ⟨ret_bool' hF.out.symm, hB⟩
    by_cases h2 : vars - 1 - pub < sec
    · have hF := hide (cir_sizes (p := p) (pub := pub) (vars := vars) (R := R) (sec := sec) (H := H) fun h => by omega)
      go_wp2
      go_ret
      exact ⟨ret_bool' hF.out.symm, hB⟩
    by_cases h3 : vars - (1 + pub + sec) = H.length
    · have h3' : (vars - (1 + pub + sec) != (H.length : Int)) = false := by simp [h3]
      have hl16 : H.length ≤ 65536 := by omega
      have hz := hide (show 0 ≤ sec ∧ vars = 1 + pub + sec + H.length from ⟨by omega, by omega⟩)
      replace h3 := hide h3
      go_wp2_with fail
      go_loopw [45] (fun t45 wr => ∃ k : Nat, k ≤ H.length ∧ t45 = .int .i64 k ∧ Below w1.heap.size w1 wr ∧ Hid (∀ j, j < k → hintOk p (1 + pub + sec + j) (H.getD j default) = true)) (fun t45 _ => H.length - (intOf t45).toNat)
      case atStart => exact ⟨0, Nat.zero_le _, rfl, Below.refl _ _, hide fun j hj => by omega⟩
      case round =>
        obtain ⟨k, hk, rfl, hb, hU⟩ := hrel
        clear k0 k1 k2 k3 k4 k5 m0 m1 m2 m3
        by_cases hlt : k < H.length
        · have hlt' : (k : Int) < H.length := by omega
          have hH' := hH.mono hb
          have gr := g0.mono hb
          have gs := g1.mono hb
          have k0 := gr.cell (j := 0) (v := .int .u64 p) rfl; have k1 := gr.cell (j := 1) (v := .int .i64 pub) rfl; have k2 := gr.cell (j := 2) (v := .int .i64 vars) rfl; have k3 := gr.cell (j := 3) (v := .slice ra R.length rc) rfl; have k4 := gr.cell (j := 4) (v := .int .i64 sec) rfl; have k5 := gr.cell (j := 5) (v := .slice ha H.length hc) rfl
          have m0 := gs.cell (j := 0) (v := .int .u64 p) rfl; have m1 := gs.cell (j := 1) (v := .int .i64 pub) rfl; have m2 := gs.cell (j := 2) (v := .int .i64 vars) rfl; have m3 := gs.cell (j := 3) (v := .slice ra R.length rc) rfl
          have hgl := gr.lt
          have hgs := gs.lt
          obtain ⟨b, off, rfl, _, hc⟩ := hH'.s (by omega)
          obtain ⟨hc0, hc1, hc2, hc3⟩ := hc k hlt
          obtain ⟨hx, hy, _, _⟩ := hH'.ok _ (getD_mem' hlt default)
          have hst := hide (fun h => cir_stop (p := p) (pub := pub) (vars := vars) (R := R) (sec := sec) hlt h)
          have hnx := hide (fun h : hintOk p (1 + pub + sec + k) (H.getD k default) = true => fun j (hj : j < k + 1) => (by
            rcases Nat.lt_or_ge j k with h2 | h2
            · exact hU.out j h2
            · have : j = k := by omega
              subst this; exact h : hintOk p (1 + pub + sec + j) (H.getD j default) = true))
          clear hc hH' hU hH
          generalize H.getD k default = r at *
          obtain ⟨kk, x, y, bit⟩ := r
          simp only at hc0 hc1 hc2 hc3 hx hy
          have cR := fun W h1 h2 => aHint_any p (1 + pub + sec + k) kk x y bit W h1 h2
          generalize hintOk p (1 + pub + sec + k) ⟨kk, x, y, bit⟩ = q at *
          go_wp2_with fail
          refine name_calls fun W2 hW2 => ?_
          have hb2 : Below wr.heap.size wr W2 := by rw [hW2]; exact (Below.refl _ _).alloc (Nat.le_refl _) _
          clear hW2
          refine (cR W2 (hx.mono hb2) (hy.mono hb2)).mono ?_
          rintro e w3 ⟨rfl, hb3⟩
          replace hb := below2 hb (below2 hb2 hb3)
          clear hb2 hb3 cR hx hy hc0 hc1 hc2 hc3 k0 k1 k2 k3 k4 k5 m0 m1 m2 m3 gr gs hgl hgs
          cases q with
          | false =>
            have hF := hide (hst.out rfl)
            go_wp2
            go_ret
            exact ⟨ret_bool' hF.out.symm, below2 hB hb⟩
          | true =>
            have hN := hide (hnx.out rfl)
            clear hst hnx
            go_wp2
            go_roundw
            case rel => exact ⟨k + 1, by omega, by go_num, hb, hN⟩
            case measure => simp [intOf]; omega
        · obtain rfl : k = H.length := by omega
          have hF := hide (cir_all hT.out.symm hz.out hU.out)
          go_wp2
          go_ret
          exact ⟨ret_bool' hF.out.symm, below2 hB hb⟩
    · have h3' : (vars - (1 + pub + sec) != (H.length : Int)) = true := by simpa using h3
      have hF := hide (cir_sizes (p := p) (pub := pub) (vars := vars) (R := R) (sec := sec) (H := H) fun h => h3 (by omega))
      replace h3 := hide h3
      go_wp2
      go_ret
      exact ⟨ret_bool' hF.out.symm, hB⟩
set_option maxHeartbeats 1600000 in
theorem rCValid_any (p pub vars : Int) (ra : Option Addr) (R : List Rw) (rc : Nat) (sec : Int) (ha : Option Addr) (H : List Hn) (hc : Nat) (w : World) (hR : RowsP w ra rc R) (hH : HintsP w ha hc H) (hs : (Lit.int .i64 sec).wf = true) :
    Calls Try.prog 13 #[.agg #[.int .u64 p, .int .i64 pub, .int .i64 vars, .slice ra R.length rc, .int .i64 sec, .slice ha H.length hc]] w fun e w' => e = .returned (.bool (cirOk p pub vars R sec H)) ∧ Below w.heap.size w w' := by
  have cT := fun W h => rTValid_any p pub vars ra R rc W h
  have hsb := wf_i hs
  have hHl := hints_len hH
  clear hs
  obtain ⟨T, hT⟩ : ∃ T, T = tblOk p pub vars R := ⟨_, rfl⟩
  rw [← hT] at cT
  replace hT := hide hT
  go_enter Try.func13, Try.ntmps13
  go_wp2_with fail
  refine name_calls fun W hW => ?_
  have g0 : Blk W w.heap.size #[.int .u64 p, .int .i64 pub, .int .i64 vars, .slice ra R.length rc, .int .i64 sec, .slice ha H.length hc] 28 := by rw [hW]; exact Blk.newAt rfl
  have hB : Below w.heap.size w W := by rw [hW]; exact (Below.refl _ _).alloc (Nat.le_refl _) _
  clear hW
  refine (cT W (hR.mono hB)).mono ?_
  rintro e w1 ⟨rfl, hb1⟩
  replace hB := below2 hB hb1
  replace g0 := g0.mono hb1
  replace hH := hH.mono hB
  clear hb1 cT hR
  have k0 := g0.cell (j := 0) (v := .int .u64 p) rfl; have k1 := g0.cell (j := 1) (v := .int .i64 pub) rfl; have k2 := g0.cell (j := 2) (v := .int .i64 vars) rfl; have k3 := g0.cell (j := 3) (v := .slice ra R.length rc) rfl; have k4 := g0.cell (j := 4) (v := .int .i64 sec) rfl; have k5 := g0.cell (j := 5) (v := .slice ha H.length hc) rfl
  cases T with
  | false =>
    have hF := hide (cir_tbl (sec := sec) (H := H) hT.out.symm)
    replace hHl := hide hHl
    go_wp2
    go_ret
    exact ⟨ret_bool' hF.out.symm, hB⟩
  | true =>
    obtain ⟨_, hp0, hp1, hp2, _⟩ := tbl_bd hT.out.symm
    by_cases h1 : sec < 0
    · have hF := hide (cir_sizes (p := p) (pub := pub) (vars := vars) (R := R) (sec := sec) (H := H) fun h => by omega)
      replace hHl := hide hHl
      go_wp2
      go_ret
      exact ⟨ret_bool' hF.out.symm, hB⟩
    by_cases h2 : 65536 < sec
    · have hF := hide (cir_sizes (p := p) (pub := pub) (vars := vars) (R := R) (sec := sec) (H := H) fun h => by omega)
      replace hHl := hide hHl
      go_wp2
      go_ret
      exact ⟨ret_bool' hF.out.symm, hB⟩
    have h6 : sec ≤ 65536 := by omega
    have h7 : 0 ≤ sec := by omega
    clear h1 h2 hsb
    obtain ⟨n, hn⟩ : ∃ n : Int, n = H.length := ⟨_, rfl⟩
    have hn0 : 0 ≤ n := by omega
    have hn1 : n ≤ 9223372036854775807 := by omega
    by_cases h3 : vars = 1 + pub + sec + n
    · have hw : wrap64 (1 + pub + sec + n) = 1 + pub + sec + n := by unfold wrap64; omega
      have h3' : (vars != 1 + pub + sec + n) = false := by simpa using h3
      have hl16 : H.length ≤ 65536 := by omega
      have hz := hide (show 0 ≤ sec ∧ vars = 1 + pub + sec + H.length from ⟨by omega, by omega⟩)
      rw [hn] at h3' hw
      replace h3 := hide h3
      replace hn := hide hn
      clear hn1 hHl
      go_wp2_with fail
      go_loopw [3] (fun t3 wr => ∃ k : Nat, k ≤ H.length ∧ t3 = .int .i64 k ∧ Below w1.heap.size w1 wr ∧ Hid (∀ j, j < k → hintOk p (1 + pub + sec + j) (H.getD j default) = true)) (fun t3 _ => H.length - (intOf t3).toNat)
      case atStart => exact ⟨0, Nat.zero_le _, rfl, Below.refl _ _, hide fun j hj => by omega⟩
      case round =>
        obtain ⟨k, hk, rfl, hb, hU⟩ := hrel
        clear k0 k1 k2 k3 k4 k5
        have gr := g0.mono hb
        have k0 := gr.cell (j := 0) (v := .int .u64 p) rfl; have k1 := gr.cell (j := 1) (v := .int .i64 pub) rfl; have k2 := gr.cell (j := 2) (v := .int .i64 vars) rfl; have k3 := gr.cell (j := 3) (v := .slice ra R.length rc) rfl; have k4 := gr.cell (j := 4) (v := .int .i64 sec) rfl; have k5 := gr.cell (j := 5) (v := .slice ha H.length hc) rfl
        by_cases hlt : k < H.length
        · have hlt' : (k : Int) < H.length := by omega
          have hH' := hH.mono hb
          have m0 := cell_later' (gr.cell (j := 0) (v := .int .u64 p) rfl); have m1 := cell_later' (gr.cell (j := 1) (v := .int .i64 pub) rfl); have m2 := cell_later' (gr.cell (j := 2) (v := .int .i64 vars) rfl); have m3 := cell_later' (gr.cell (j := 3) (v := .slice ra R.length rc) rfl); have m4 := cell_later' (gr.cell (j := 4) (v := .int .i64 sec) rfl); have m5 := cell_later' (gr.cell (j := 5) (v := .slice ha H.length hc) rfl)
          obtain ⟨b, off, rfl, _, hc⟩ := hH'.s (by omega)
          obtain ⟨hc0, hc1, hc2, hc3⟩ := hc k hlt
          obtain ⟨hx, hy, _, _⟩ := hH'.ok _ (getD_mem' hlt default)
          have hst := hide (fun h => cir_stop (p := p) (pub := pub) (vars := vars) (R := R) (sec := sec) hlt h)
          have hnx := hide (fun h : hintOk p (1 + pub + sec + k) (H.getD k default) = true => fun j (hj : j < k + 1) => (by
            rcases Nat.lt_or_ge j k with h2 | h2
            · exact hU.out j h2
            · have : j = k := by omega
              subst this; exact h : hintOk p (1 + pub + sec + j) (H.getD j default) = true))
          clear hc hH' hU hH
          generalize H.getD k default = r at *
          obtain ⟨kk, x, y, bit⟩ := r
          simp only at hc0 hc1 hc2 hc3 hx hy
          replace hc0 := cell_later' hc0
          replace hc1 := cell_later' hc1
          replace hc2 := cell_later' hc2
          replace hc3 := cell_later' hc3
          have cR := fun P => rHint_any p (1 + pub + sec + k) kk x y bit (later wr P) (hx.mono (below_later _ _)) (hy.mono (below_later _ _))
          generalize hintOk p (1 + pub + sec + k) ⟨kk, x, y, bit⟩ = q at *
          go_wp2_with fail
          refine wp_region_later Try.mixed (by kernel_rfl) ?_
          repeat (first | go_big_quiet_step (first | (go_at_call 40; exact Calls.later_of (cR _))) | quiet_step (first | (go_at_call 40; exact Calls.later_of (cR _))))
          refine wpQuiet_nil ?_
          intro w3 hb3
          replace hb3 := below_of_later hb3
          replace hb := below2 hb hb3
          clear hb3 cR hx hy hc0 hc1 hc2 hc3 k0 k1 k2 k3 k4 k5 m0 m1 m2 m3 m4 m5 gr
          cases q with
          | false =>
            have hF := hide (hst.out rfl)
            go_wp2
            go_ret
            exact ⟨ret_bool' hF.out.symm, below2 hB hb⟩
          | true =>
            have hN := hide (hnx.out rfl)
            clear hst hnx
            go_wp2
            go_roundw
            case rel => exact ⟨k + 1, by omega, by go_num, hb, hN⟩
            case measure => simp [intOf]; omega
        · obtain rfl : k = H.length := by omega
          have hF := hide (cir_all hT.out.symm hz.out hU.out)
          go_wp2
          go_ret
          exact ⟨ret_bool' hF.out.symm, below2 hB hb⟩
    · have hF := hide (cir_sizes (p := p) (pub := pub) (vars := vars) (R := R) (sec := sec) (H := H) fun h => h3 (by omega))
      have hw : (vars != wrap64 (1 + pub + sec + n)) = true := by
        have : ¬ vars = wrap64 (1 + pub + sec + n) := by unfold wrap64; omega
        simpa using this
      rw [hn] at hw
      replace h3 := hide h3
      replace hHl := hide hHl
      replace hn := hide hn
      replace hn1 := hide hn1
      go_wp2
      go_ret
      exact ⟨ret_bool' hF.out.symm, hB⟩
end Go.Proofs.Ytlflkddgdbdebaa
