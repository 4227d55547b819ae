/- Circuits: Valid of tables, of the program and of the reference. -/
import Derived.Test.YtlgjnidphldiiaaCircV
namespace Go.Proofs.Ytlgjnidphldiiaa
open Go.RowKit

set_option maxHeartbeats 1600000 in
theorem tLinear_any (p pub vars : Int) (ra : Option Addr) (R : List Rw) (rc : Nat) (s : Lc) (w : World) (hs : LcOk w s) :
    Calls Try.prog 140 #[.agg #[.int .u64 p, .int .i64 pub, .int .i64 vars, .slice ra R.length rc], .slice s.ad s.l.length s.cap] w fun e w' => e = .returned (.bool (linOk p vars s.l)) ∧ Below w.heap.size w w' := by
  obtain ⟨a, cap, L⟩ := s
  have hl := hs.sl
  have hw := hs.wl
  have hle := hide (lc_len hs)
  clear hs
  simp only at hl hw ⊢
  go_enter Try.func140, Try.ntmps140
  go_wp2_with fail
  refine name_world fun W hW => ?_
  have g0 : Blk W w.heap.size #[.int .u64 p, .int .i64 pub, .int .i64 vars, .slice ra R.length rc] 34 := by rw [hW]; exact Blk.newAt rfl
  have hB0 : Below w.heap.size w W := by rw [hW]; exact (Below.refl _ _).alloc (Nat.le_refl _) _
  clear hW
  replace hl := hl.mono hB0
  go_wp2
  go_loopw [10, 5] (fun t10 t5 wr => ∃ (k : Nat) (lst : Int), k ≤ L.length ∧ t10 = .int .i64 k ∧ t5 = .int .i64 lst ∧ Below W.heap.size W wr ∧ LinUpTo p vars L k lst) (fun t10 _ _ => L.length - (intOf t10).toNat)
  case atStart => exact ⟨0, -1, Nat.zero_le _, rfl, rfl, Below.refl _ _, .zero _ _ _⟩
  case round =>
    obtain ⟨k, lst, hk, rfl, rfl, hB, hU⟩ := hrel
    by_cases hlt : k < L.length
    · have hlt' : (k : Int) < L.length := by omega
      obtain ⟨b, off, rfl, _, hc0, hc1⟩ := (hl.mono hB).get hlt
      have hW := hw.get hlt
      have hst := hide (fun h => linOk_stop (p := p) (n := vars) hlt h)
      have hat := hide hU.at_
      have hnx := hide (fun h => hU.next h)
      generalize L.getD k (0, 0) = t at *
      obtain ⟨v, c⟩ := t
      simp only at hc0 hc1 hW hat hnx
      have hBa := hB.alloc hB.size (.cells #[.int .i64 v, .int .u64 c] 100)
      have g1 := g0.mono hBa
      have k0 := g1.cell (j := 0) (v := .int .u64 p) rfl; have k1 := g1.cell (j := 1) (v := .int .i64 pub) rfl; have k2 := g1.cell (j := 2) (v := .int .i64 vars) rfl; have k3 := g1.cell (j := 3) (v := .slice ra R.length rc) rfl
      clear hU hl hw
      by_cases h1 : v ≤ lst
      · have hR := hide (hst.out fun h => by have := (hat.out.1 h).1; omega)
        clear hst hat hnx
        go_wp2
        go_ret
        exact ⟨ret_bool' hR.out.symm, below2 hB0 hBa⟩
      by_cases h2 : vars ≤ v
      · have hR := hide (hst.out fun h => by have := (hat.out.1 h).2.1; omega)
        clear hst hat hnx
        go_wp2
        go_ret
        exact ⟨ret_bool' hR.out.symm, below2 hB0 hBa⟩
      by_cases h3 : c = 0
      · have hR := hide (hst.out fun h => (hat.out.1 h).2.2.1 h3)
        have h3' : (c == 0) = true := by simp [h3]
        replace h3 := hide h3
        clear hst hat hnx
        go_wp2
        go_ret
        exact ⟨ret_bool' hR.out.symm, below2 hB0 hBa⟩
      have h3' : (c == 0) = false := by simpa using h3
      by_cases h4 : p ≤ c
      · have hR := hide (hst.out fun h => by have := (hat.out.1 h).2.2.2; omega)
        clear hst hat hnx
        go_wp2
        go_ret
        exact ⟨ret_bool' hR.out.symm, below2 hB0 hBa⟩
      have hN := hide (hnx.out (hat.out.2 ⟨by omega, by omega, h3, by omega⟩))
      clear hst hat hnx
      go_wp2
      go_roundw
      case rel => exact ⟨k + 1, v, by omega, rel_succ hlt hle.out, rfl, hBa, hN.out⟩
      case measure => exact meas_succ hlt hle.out
    · obtain rfl : k = L.length := by omega
      have hR := hide hU.all
      clear hU
      go_wp2
      go_ret
      exact ⟨ret_bool' hR.out.symm, below2 hB0 hB⟩

theorem wrap_pred {j : Nat} (hn : j + 1 ≤ 9223372036854775807) : wrap64 (((j + 1 : Nat) : Int) - 1) = (j : Int) := by
  unfold wrap64; omega

set_option maxHeartbeats 1600000 in
theorem rLinear_any (p n : Int) (s : Lc) (w : World) (hs : LcOk w s) :
    Calls Try.prog 134 #[.int .u64 p, .slice s.ad s.l.length s.cap, .int .i64 n] w fun e w' => e = .returned (.bool (linOk p n s.l)) ∧ Below w.heap.size w w' := by
  obtain ⟨a, cap, L⟩ := s
  have hl := hs.sl
  have hw := hs.wl
  have hle := hide (lc_len hs)
  clear hs
  simp only at hl hw ⊢
  go_enter Try.func134, Try.ntmps134
  go_wp2
  go_loopw [7] (fun t7 wr => ∃ (k : Nat) (lst : Int), k ≤ L.length ∧ t7 = .int .i64 k ∧ Below w.heap.size w wr ∧ LinUpTo p n L k lst) (fun t7 _ => L.length - (intOf t7).toNat)
  case atStart => exact ⟨0, -1, Nat.zero_le _, rfl, Below.refl _ _, .zero _ _ _⟩
  case round =>
    obtain ⟨k, lst, hk, rfl, hB, hU⟩ := hrel
    by_cases hlt : k < L.length
    · have hlt' : (k : Int) < L.length := by omega
      have hW := hw.get hlt
      have hst := hide (fun h => linOk_stop (p := p) (n := n) hlt h)
      have hat := hide hU.at_
      have hnx := hide (fun h => hU.next h)
      have hlo := hU.lo
      obtain ⟨b, off, rfl, _, hc⟩ := (hl.mono hB) (by omega)
      obtain ⟨hc0, hc1⟩ := hc k hlt
      have hcp : 0 < k → wr.cell? ⟨b, off + (k - 1) * 2, none⟩ = some (.int .i64 lst) := fun h => by rw [hU.2.2 h]; exact (hc (k - 1) (by omega)).1
      have hz := hU.2.1
      generalize L.getD k (0, 0) = t at *
      obtain ⟨v, c⟩ := t
      simp only at hc0 hc1 hW hat hnx
      replace hc0 := cell_later' hc0
      replace hc1 := cell_later' hc1
      clear hU hl hw hc
      by_cases h1 : v < 0
      · have hR := hide (hst.out fun h => by have := (hat.out.1 h).1; omega)
        clear hst hat hnx hcp hz
        go_wp2_with fail
        refine wp_region_later Try.mixed (by kernel_rfl) ?_
        repeat (first | go_big_quiet_step (first | fail) | quiet_step (first | fail))
        refine wpQuiet_nil ?_
        intro w3 hb3
        replace hb3 := below_of_later hb3
        go_wp2
        go_ret
        exact ⟨ret_bool' hR.out.symm, below2 hB hb3⟩
      by_cases h2 : n ≤ v
      · have hR := hide (hst.out fun h => by have := (hat.out.1 h).2.1; omega)
        clear hst hat hnx hcp hz
        go_wp2_with fail
        refine wp_region_later Try.mixed (by kernel_rfl) ?_
        repeat (first | go_big_quiet_step (first | fail) | quiet_step (first | fail))
        refine wpQuiet_nil ?_
        intro w3 hb3
        replace hb3 := below_of_later hb3
        go_wp2
        go_ret
        exact ⟨ret_bool' hR.out.symm, below2 hB hb3⟩
      by_cases hk0 : 0 < k
      · have hkd : decide (0 < k) = true := by simpa using hk0
        have hcp := cell_later' (hcp (by omega))
        obtain ⟨j, hj⟩ : ∃ j : Nat, j = k - 1 := ⟨_, rfl⟩
        rw [← hj] at hcp
        have hjl : j < L.length := by omega
        have hjk : (k : Int) - 1 = j := by omega
        have hjw : wrap64 (j : Int) = j := by have := hle.out; unfold wrap64; omega
        clear hz
        replace hj := hide hj
        by_cases h0 : v ≤ lst
        · have hR := hide (hst.out fun h => by have := (hat.out.1 h).1; omega)
          clear hst hat hnx
          go_wp2_with fail
          refine wp_region_later Try.mixed (by kernel_rfl) ?_
          repeat (first | go_big_quiet_step (first | fail) | quiet_step (first | fail))
          refine wpQuiet_nil ?_
          intro w3 hb3
          replace hb3 := below_of_later hb3
          go_wp2
          go_ret
          exact ⟨ret_bool' hR.out.symm, below2 hB hb3⟩
        by_cases h3 : c = 0
        · have hR := hide (hst.out fun h => (hat.out.1 h).2.2.1 h3)
          have h3' : (c == 0) = true := by simp [h3]
          replace h3 := hide h3
          clear hst hat hnx
          go_wp2_with fail
          refine wp_region_later Try.mixed (by kernel_rfl) ?_
          repeat (first | go_big_quiet_step (first | fail) | quiet_step (first | fail))
          refine wpQuiet_nil ?_
          intro w3 hb3
          replace hb3 := below_of_later hb3
          go_wp2
          go_ret
          exact ⟨ret_bool' hR.out.symm, below2 hB hb3⟩
        have h3' : (c == 0) = false := by simpa using h3
        by_cases h4 : p ≤ c
        · have hR := hide (hst.out fun h => by have := (hat.out.1 h).2.2.2; omega)
          clear hst hat hnx
          go_wp2_with fail
          refine wp_region_later Try.mixed (by kernel_rfl) ?_
          repeat (first | go_big_quiet_step (first | fail) | quiet_step (first | fail))
          refine wpQuiet_nil ?_
          intro w3 hb3
          replace hb3 := below_of_later hb3
          go_wp2
          go_ret
          exact ⟨ret_bool' hR.out.symm, below2 hB hb3⟩
        have hN := hide (hnx.out (hat.out.2 ⟨by omega, by omega, h3, by omega⟩))
        clear hst hat hnx
        go_wp2_with fail
        refine wp_region_later Try.mixed (by kernel_rfl) ?_
        repeat (first | go_big_quiet_step (first | fail) | quiet_step (first | fail))
        refine wpQuiet_nil ?_
        intro w3 hb3
        replace hb3 := below_of_later hb3
        go_wp2
        go_roundw
        case rel => exact ⟨k + 1, v, by omega, rel_succ hlt hle.out, below2 hB hb3, hN.out⟩
        case measure => exact meas_succ hlt hle.out
      · have hkd : decide (0 < k) = false := by simpa using hk0
        have hlst := hz (by omega)
        clear hcp hz
        by_cases h3 : c = 0
        · have hR := hide (hst.out fun h => (hat.out.1 h).2.2.1 h3)
          have h3' : (c == 0) = true := by simp [h3]
          replace h3 := hide h3
          clear hst hat hnx
          go_wp2_with fail
          refine wp_region_later Try.mixed (by kernel_rfl) ?_
          repeat (first | go_big_quiet_step (first | fail) | quiet_step (first | fail))
          refine wpQuiet_nil ?_
          intro w3 hb3
          replace hb3 := below_of_later hb3
          go_wp2
          go_ret
          exact ⟨ret_bool' hR.out.symm, below2 hB hb3⟩
        have h3' : (c == 0) = false := by simpa using h3
        by_cases h4 : p ≤ c
        · have hR := hide (hst.out fun h => by have := (hat.out.1 h).2.2.2; omega)
          clear hst hat hnx
          go_wp2_with fail
          refine wp_region_later Try.mixed (by kernel_rfl) ?_
          repeat (first | go_big_quiet_step (first | fail) | quiet_step (first | fail))
          refine wpQuiet_nil ?_
          intro w3 hb3
          replace hb3 := below_of_later hb3
          go_wp2
          go_ret
          exact ⟨ret_bool' hR.out.symm, below2 hB hb3⟩
        have hN := hide (hnx.out (hat.out.2 ⟨by omega, by omega, h3, by omega⟩))
        clear hst hat hnx
        go_wp2_with fail
        refine wp_region_later Try.mixed (by kernel_rfl) ?_
        repeat (first | go_big_quiet_step (first | fail) | quiet_step (first | fail))
        refine wpQuiet_nil ?_
        intro w3 hb3
        replace hb3 := below_of_later hb3
        go_wp2
        go_roundw
        case rel => exact ⟨k + 1, v, by omega, (by first | exact rel_succ hlt hle.out | rfl), below2 hB hb3, hN.out⟩
        case measure => first | exact meas_succ hlt hle.out | (simp only [intOf]; omega)
    · obtain rfl : k = L.length := by omega
      have hR := hide hU.all
      clear hU
      go_wp2
      go_ret
      exact ⟨ret_bool' hR.out.symm, hB⟩
end Go.Proofs.Ytlgjnidphldiiaa
