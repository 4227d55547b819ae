/- Gadgets: Right of the reference. -/
import Derived.Test.YtlgjnidphldiiaaGadC
import Derived.Test.YtlgjnidphldiiaaCircV
namespace Go.Proofs.Ytlgjnidphldiiaa
open Go.RowKit

set_option maxRecDepth 10000 in
set_option maxHeartbeats 16000000 in
theorem rRight_any (p n : Int) (s : Lc) (w : World) (hs : LcOk w s) :
    Calls Try.prog 34 #[.int .u64 p, .slice s.ad s.l.length s.cap, .int .i64 n] w fun e w' => e = .returned (.bool (linOk p n s.l)) ∧ Below w.heap.size w w' := by
  obtain ⟨a, cap, L⟩ := s
  have hl := hs.sl
  have hw := hs.wl
  have hle := hide (lc_len hs)
  clear hs
  simp only at hl hw ⊢
  go_enter Try.func34, Try.ntmps34
  go_wp2
  go_loopw [7] (fun t7 wr => ∃ (k : Nat) (lst : Int), k ≤ L.length ∧ t7 = .int .i64 k ∧ Below w.heap.size w wr ∧ LinUpTo p n L k lst) (fun t7 _ => L.length - (intOf t7).toNat)
  case atStart => exact ⟨0, -1, Nat.zero_le _, rfl, Below.refl _ _, .zero _ _ _⟩
  case round =>
    obtain ⟨k, lst, hk, rfl, hB, hU⟩ := hrel
    by_cases hlt : k < L.length
    · have hlt' : (k : Int) < L.length := by omega
      have hW := hw.get hlt
      have hst := hide (fun h => linOk_stop (p := p) (n := n) hlt h)
      have hat := hide hU.at_
      have hnx := hide (fun h => hU.next h)
      have hlo := hU.lo
      obtain ⟨b, off, rfl, _, hc⟩ := (hl.mono hB) (by omega)
      obtain ⟨hc0, hc1⟩ := hc k hlt
      have hcp : 0 < k → wr.cell? ⟨b, off + (k - 1) * 2, none⟩ = some (.int .i64 lst) := fun h => by rw [hU.2.2 h]; exact (hc (k - 1) (by omega)).1
      have hz := hU.2.1
      generalize L.getD k (0, 0) = t at *
      obtain ⟨v, c⟩ := t
      simp only at hc0 hc1 hW hat hnx
      replace hc0 := cell_later' hc0
      replace hc1 := cell_later' hc1
      clear hU hl hw hc
      by_cases h1 : v < 0
      · have hR := hide (hst.out fun h => by have := (hat.out.1 h).1; omega)
        clear hst hat hnx hcp hz
        go_wp2_with fail
        refine wp_region_later Try.mixed (by kernel_rfl) ?_
        repeat (first | go_big_quiet_step (first | fail) | quiet_step (first | fail))
        refine wpQuiet_nil ?_
        intro w3 hb3
        replace hb3 := below_of_later hb3
        go_wp2
        go_ret
        exact ⟨ret_bool' hR.out.symm, below2 hB hb3⟩
      by_cases h2 : n ≤ v
      · have hR := hide (hst.out fun h => by have := (hat.out.1 h).2.1; omega)
        clear hst hat hnx hcp hz
        go_wp2_with fail
        refine wp_region_later Try.mixed (by kernel_rfl) ?_
        repeat (first | go_big_quiet_step (first | fail) | quiet_step (first | fail))
        refine wpQuiet_nil ?_
        intro w3 hb3
        replace hb3 := below_of_later hb3
        go_wp2
        go_ret
        exact ⟨ret_bool' hR.out.symm, below2 hB hb3⟩
      by_cases h3 : c = 0
      · have hR := hide (hst.out fun h => (hat.out.1 h).2.2.1 h3)
        have h3' : (c == 0) = true := by simp [h3]
        replace h3 := hide h3
        clear hst hat hnx hcp hz
        go_wp2_with fail
        refine wp_region_later Try.mixed (by kernel_rfl) ?_
        repeat (first | go_big_quiet_step (first | fail) | quiet_step (first | fail))
        refine wpQuiet_nil ?_
        intro w3 hb3
        replace hb3 := below_of_later hb3
        go_wp2
        go_ret
        exact ⟨ret_bool' hR.out.symm, below2 hB hb3⟩
      have h3' : (c == 0) = false := by simpa using h3
      by_cases h4 : p ≤ c
      · have hR := hide (hst.out fun h => by have := (hat.out.1 h).2.2.2; omega)
        clear hst hat hnx hcp hz
        go_wp2_with fail
        refine wp_region_later Try.mixed (by kernel_rfl) ?_
        repeat (first | go_big_quiet_step (first | fail) | quiet_step (first | fail))
        refine wpQuiet_nil ?_
        intro w3 hb3
        replace hb3 := below_of_later hb3
        go_wp2
        go_ret
        exact ⟨ret_bool' hR.out.symm, below2 hB hb3⟩
      by_cases hk0 : 0 < k
      · have hkd : decide (0 < k) = true := by simpa using hk0
        have hcp := cell_later' (hcp (by omega))
        obtain ⟨j, hj⟩ : ∃ j : Nat, j = k - 1 := ⟨_, rfl⟩
        rw [← hj] at hcp
        have hjl : j < L.length := by omega
        have hjk : (k : Int) - 1 = j := by omega
        have hjw : wrap64 (j : Int) = j := by have := hle.out; unfold wrap64; omega
        clear hz
        replace hj := hide hj
        by_cases h0 : v ≤ lst
        · have hR := hide (hst.out fun h => by have := (hat.out.1 h).1; omega)
          clear hst hat hnx
          go_wp2_with fail
          refine wp_region_later Try.mixed (by kernel_rfl) ?_
          repeat (first | go_big_quiet_step (first | fail) | quiet_step (first | fail))
          refine wpQuiet_nil ?_
          intro w3 hb3
          replace hb3 := below_of_later hb3
          go_wp2
          go_ret
          exact ⟨ret_bool' hR.out.symm, below2 hB hb3⟩
        have hN := hide (hnx.out (hat.out.2 ⟨by omega, by omega, h3, by omega⟩))
        clear hst hat hnx
        go_wp2_with fail
        refine wp_region_later Try.mixed (by kernel_rfl) ?_
        repeat (first | go_big_quiet_step (first | fail) | quiet_step (first | fail))
        refine wpQuiet_nil ?_
        intro w3 hb3
        replace hb3 := below_of_later hb3
        go_wp2
        go_roundw
        case rel => exact ⟨k + 1, v, by omega, rel_succ hlt hle.out, below2 hB hb3, hN.out⟩
        case measure => exact meas_succ hlt hle.out
      · have hkd : decide (0 < k) = false := by simpa using hk0
        have hlst := hz (by omega)
        clear hcp hz
        have hN := hide (hnx.out (hat.out.2 ⟨by omega, by omega, h3, by omega⟩))
        clear hst hat hnx
        go_wp2_with fail
        refine wp_region_later Try.mixed (by kernel_rfl) ?_
        repeat (first | go_big_quiet_step (first | fail) | quiet_step (first | fail))
        refine wpQuiet_nil ?_
        intro w3 hb3
        replace hb3 := below_of_later hb3
        go_wp2
        go_roundw
        case rel => exact ⟨k + 1, v, by omega, (by first | exact rel_succ hlt hle.out | rfl), below2 hB hb3, hN.out⟩
        case measure => first | exact meas_succ hlt hle.out | (simp only [intOf]; omega)
    · obtain rfl : k = L.length := by omega
      have hR := hide hU.all
      clear hU
      go_wp2
      go_ret
      exact ⟨ret_bool' hR.out.symm, hB⟩
end Go.Proofs.Ytlgjnidphldiiaa
