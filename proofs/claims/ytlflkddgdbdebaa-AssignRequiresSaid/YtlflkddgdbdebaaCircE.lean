/- Circuits: the value of a linear combination, of the program and of the references. -/
import Derived.Test.YtlflkddgdbdebaaCircV
namespace Go.Proofs.Ytlflkddgdbdebaa
open Go.RowKit

theorem lstep_in {p : Int} {W : List Int} {s : Int} {j : Nat} {c : Int} (h : j < W.length) : lstep p W s ((j : Int), c) = fadd p s (fmul p c (W.getD j 0)) := by
  unfold lstep
  rw [if_pos ⟨by omega, by simp only; omega⟩, Int.toNat_natCast]
theorem lstep_out {p : Int} {W : List Int} {s v c : Int} (h : ¬ (0 ≤ v ∧ v < (W.length : Int))) : lstep p W s (v, c) = s := by
  unfold lstep
  rw [if_neg h]

set_option maxHeartbeats 1600000 in
theorem tValue_any (p : Int) (s : Lc) (wa : Option Addr) (wc : Nat) (ws : List Int) (w : World) (hs : LcOk w s) (hW : Sl w .u64 wa ws) (hA : AllW ws) :
    Calls Try.prog 42 #[.int .u64 p, .slice s.ad s.l.length s.cap, .slice wa ws.length wc] w fun e w' => e = .returned (.int .u64 (lval p ws s.l)) ∧ Below w.heap.size w w' := by
  obtain ⟨a, cap, L⟩ := s
  have hl := hs.sl
  have hw := hs.wl
  have hle := hide (lc_len hs)
  clear hs
  simp only at hl hw ⊢
  go_enter Try.func42, Try.ntmps42
  go_wp2_with fail
  have g0 : Blk (w.alloc (.cells #[.int .u64 p] 75)) w.heap.size #[.int .u64 p] 75 := Blk.newAt rfl
  have hB0 := (Below.refl w.heap.size w).alloc (Nat.le_refl _) (.cells #[.int .u64 p] 75)
  go_loopw [8, 15] (fun t8 t15 wr => ∃ k : Nat, k ≤ L.length ∧ t8 = .int .u64 (lval p ws (L.take k)) ∧ t15 = .int .i64 k ∧ Below w.heap.size w wr ∧ Blk wr w.heap.size #[.int .u64 p] 75) (fun _ t15 _ => L.length - (intOf t15).toNat)
  case atStart => exact ⟨0, Nat.zero_le _, rfl, rfl, hB0, g0⟩
  case round =>
    clear g0 hB0
    obtain ⟨k, hk, rfl, rfl, hb, gr⟩ := hrel
    by_cases hlt : k < L.length
    · have hlt' : (k : Int) < L.length := by omega
      have hst := lval_step p ws L hlt
      have hbd := lval_bd p ws (L.take k)
      obtain ⟨b, off, rfl, _, hc0, hc1⟩ := (hl.mono hb).get hlt
      have hv := hw.get hlt
      obtain ⟨S, hS⟩ : ∃ S, S = lval p ws (L.take k) := ⟨_, rfl⟩
      obtain ⟨N, hN⟩ : ∃ N, N = lval p ws (L.take (k + 1)) := ⟨_, rfl⟩
      rw [← hS] at hbd hst ⊢
      rw [← hN] at hst
      replace hN := hide hN
      clear hS
      generalize L.getD k (0, 0) = t at *
      obtain ⟨v, c⟩ := t
      simp only at hc0 hc1 hv
      replace hst := hide hst
      have hBa := hb.alloc hb.size (.cells #[.int .i64 v, .int .u64 c] 53)
      have gA := gr.alloc (.cells #[.int .i64 v, .int .u64 c] 53)
      have gT : Blk (wr.alloc (.cells #[.int .i64 v, .int .u64 c] 53)) wr.heap.size #[.int .i64 v, .int .u64 c] 53 := Blk.newAt rfl
      by_cases hr0 : 0 ≤ v
      · by_cases hr1 : v < (ws.length : Int)
        · have hdd : True := trivial
          obtain ⟨j, rfl⟩ := Int.eq_ofNat_of_zero_le hr0
          have hj : j < ws.length := by omega
          have hst2 := hide (hst.out.trans (lstep_in hj))
          obtain ⟨b2, off2, rfl, _, hd⟩ := (hW.mono hb).get hj
          have hx := hA.get hj
          generalize ws.getD j 0 = x at *
          have hm := fmul_bd p c x
          replace hd := cell_below ((Below.refl wr.heap.size wr).alloc (Nat.le_refl _) (.cells #[.int .i64 j, .int .u64 c] 53)) hd
          clear hst hl hw hW hA
          go_wp2_with fail
          generalize wr.alloc (.cells #[.int .i64 j, .int .u64 c] 53) = W at *
          have k0 := cell_later' (gA.cell (j := 0) (v := .int .u64 p) rfl)
          have m0 := cell_later' (gT.cell (j := 0) (v := .int .i64 j) rfl)
          have m1 := cell_later' (gT.cell (j := 1) (v := .int .u64 c) rfl)
          have hd' := cell_later' hd
          refine wp_region_later Try.mixed (by kernel_rfl) ?_
          repeat (quiet_step (first | (go_at_call 43; exact Calls.later_of (Mul_any _ _ _ _ (by omega) (by omega) (by omega) (by omega))) | (go_at_call 68; exact Calls.later_of (Add_any _ _ _ _ (by omega) (by omega) (by omega) (by omega)))))
          refine wpQuiet_nil ?_
          intro w3 hb3
          replace hb3 := below_of_later hb3
          replace gA := gA.mono hb3
          replace hBa := below2 hBa hb3
          clear k0 m0 m1 hd' hd gT
          go_wp2
          go_roundw
          case rel => exact ⟨k + 1, by omega, by rw [← hN.out, hst2.out], rel_succ hlt hle.out, hBa, gA⟩
          case measure => exact meas_succ hlt hle.out
        · have hst2 := hide (hst.out.trans (lstep_out fun h => hr1 h.2))
          clear hst hl hw hW hA
          go_wp2_with fail
          go_roundw
          case rel => exact ⟨k + 1, by omega, by rw [← hN.out, hst2.out], rel_succ hlt hle.out, hBa, gA⟩
          case measure => exact meas_succ hlt hle.out
      · have hst2 := hide (hst.out.trans (lstep_out fun h => hr0 h.1))
        clear hst hl hw hW hA
        go_wp2_with fail
        go_roundw
        case rel => exact ⟨k + 1, by omega, by rw [← hN.out, hst2.out], rel_succ hlt hle.out, hBa, gA⟩
        case measure => exact meas_succ hlt hle.out
    · obtain rfl : k = L.length := by omega
      have hT := hide (show L.take L.length = L from List.take_length)
      go_wp2
      go_ret
      exact ⟨ret_int (by rw [hT.out]), hb⟩

set_option maxHeartbeats 1600000 in
theorem rValue_any (p : Int) (s : Lc) (wa : Option Addr) (wc : Nat) (ws : List Int) (w : World) (hs : LcOk w s) (hW : Sl w .u64 wa ws) (hA : AllW ws) :
    Calls Try.prog 20 #[.int .u64 p, .slice s.ad s.l.length s.cap, .slice wa ws.length wc] w fun e w' => e = .returned (.int .u64 (lval p ws s.l)) ∧ Below w.heap.size w w' := by
  obtain ⟨a, cap, L⟩ := s
  have hl := hs.sl
  have hw := hs.wl
  have hle := hide (lc_len hs)
  clear hs
  simp only at hl hw ⊢
  go_enter Try.func20, Try.ntmps20
  go_wp2_with fail
  go_loopw [7, 8] (fun t7 t8 wr => ∃ k : Nat, k ≤ L.length ∧ t7 = .int .u64 (lval p ws (L.take k)) ∧ t8 = .int .i64 k ∧ Below w.heap.size w wr) (fun _ t8 _ => L.length - (intOf t8).toNat)
  case atStart => exact ⟨0, Nat.zero_le _, rfl, rfl, Below.refl _ _⟩
  case round =>
    obtain ⟨k, hk, rfl, rfl, hb⟩ := hrel
    by_cases hlt : k < L.length
    · have hlt' : (k : Int) < L.length := by omega
      have hst := lval_step p ws L hlt
      have hbd := lval_bd p ws (L.take k)
      obtain ⟨b, off, rfl, _, hc0, hc1⟩ := (hl.mono hb).get hlt
      have hv := hw.get hlt
      obtain ⟨S, hS⟩ : ∃ S, S = lval p ws (L.take k) := ⟨_, rfl⟩
      obtain ⟨N, hN⟩ : ∃ N, N = lval p ws (L.take (k + 1)) := ⟨_, rfl⟩
      rw [← hS] at hbd hst ⊢
      rw [← hN] at hst
      replace hN := hide hN
      clear hS
      generalize L.getD k (0, 0) = t at *
      obtain ⟨v, c⟩ := t
      simp only at hc0 hc1 hv
      replace hst := hide hst
      by_cases hr0 : 0 ≤ v
      · by_cases hr1 : v < (ws.length : Int)
        · have hdd : True := trivial
          obtain ⟨j, rfl⟩ := Int.eq_ofNat_of_zero_le hr0
          have hj : j < ws.length := by omega
          have hst2 := hide (hst.out.trans (lstep_in hj))
          obtain ⟨b2, off2, rfl, _, hd⟩ := (hW.mono hb).get hj
          have hx := hA.get hj
          generalize ws.getD j 0 = x at *
          have hm := fmul_bd p c x
          clear hst hl hw hW hA
          go_wp2_with fail
          have m0 := cell_later' hc0
          have m1 := cell_later' hc1
          have hd' := cell_later' hd
          refine wp_region_later Try.mixed (by kernel_rfl) ?_
          repeat (quiet_step (first | (go_at_call 21; exact Calls.later_of (rMul_any _ _ _ _ (by omega) (by omega) (by omega) (by omega))) | (go_at_call 24; exact Calls.later_of (rAdd_any _ _ _ _ (by omega) (by omega) (by omega) (by omega)))))
          refine wpQuiet_nil ?_
          intro w3 hb3
          replace hb3 := below_of_later hb3
          replace hb := below2 hb hb3
          clear m0 m1 hd' hd
          go_wp2
          go_roundw
          case rel => exact ⟨k + 1, by omega, by rw [← hN.out, hst2.out], rel_succ hlt hle.out, hb⟩
          case measure => exact meas_succ hlt hle.out
        · have hst2 := hide (hst.out.trans (lstep_out fun h => hr1 h.2))
          clear hst hl hw hW hA
          go_wp2_with fail
          go_roundw
          case rel => exact ⟨k + 1, by omega, by rw [← hN.out, hst2.out], rel_succ hlt hle.out, hb⟩
          case measure => exact meas_succ hlt hle.out
      · have hst2 := hide (hst.out.trans (lstep_out fun h => hr0 h.1))
        clear hst hl hw hW hA
        go_wp2_with fail
        go_roundw
        case rel => exact ⟨k + 1, by omega, by rw [← hN.out, hst2.out], rel_succ hlt hle.out, hb⟩
        case measure => exact meas_succ hlt hle.out
    · obtain rfl : k = L.length := by omega
      have hT := hide (show L.take L.length = L from List.take_length)
      go_wp2
      go_ret
      exact ⟨ret_int (by rw [hT.out]), hb⟩

set_option maxHeartbeats 1600000 in
theorem rValue20_any (p : Int) (s : Lc) (wa : Option Addr) (wc : Nat) (ws : List Int) (w : World) (hs : LcOk w s) (hW : Sl w .u64 wa ws) (hA : AllW ws) (hin : ∀ i, i < s.l.length → 0 ≤ (s.l.getD i (0, 0)).1 ∧ (s.l.getD i (0, 0)).1 < (ws.length : Int)) :
    Calls Try.prog 72 #[.int .u64 p, .slice s.ad s.l.length s.cap, .slice wa ws.length wc] w fun e w' => e = .returned (.int .u64 (lval p ws s.l)) ∧ Below w.heap.size w w' := by
  obtain ⟨a, cap, L⟩ := s
  have hl := hs.sl
  have hw := hs.wl
  have hle := hide (lc_len hs)
  clear hs
  simp only at hl hw hin ⊢
  go_enter Try.func72, Try.ntmps72
  go_wp2_with fail
  go_loopw [7, 8] (fun t7 t8 wr => ∃ k : Nat, k ≤ L.length ∧ t7 = .int .u64 (lval p ws (L.take k)) ∧ t8 = .int .i64 k ∧ Below w.heap.size w wr) (fun _ t8 _ => L.length - (intOf t8).toNat)
  case atStart => exact ⟨0, Nat.zero_le _, rfl, rfl, Below.refl _ _⟩
  case round =>
    obtain ⟨k, hk, rfl, rfl, hb⟩ := hrel
    by_cases hlt : k < L.length
    · have hlt' : (k : Int) < L.length := by omega
      have hst := lval_step p ws L hlt
      have hbd := lval_bd p ws (L.take k)
      obtain ⟨hr0, hr1⟩ := hin k hlt
      clear hin
      obtain ⟨b, off, rfl, _, hc0, hc1⟩ := (hl.mono hb).get hlt
      have hv := hw.get hlt
      obtain ⟨S, hS⟩ : ∃ S, S = lval p ws (L.take k) := ⟨_, rfl⟩
      obtain ⟨N, hN⟩ : ∃ N, N = lval p ws (L.take (k + 1)) := ⟨_, rfl⟩
      rw [← hS] at hbd hst ⊢
      rw [← hN] at hst
      replace hN := hide hN
      clear hS
      generalize L.getD k (0, 0) = t at *
      obtain ⟨v, c⟩ := t
      simp only at hc0 hc1 hv
      replace hst := hide hst
      obtain ⟨j, rfl⟩ := Int.eq_ofNat_of_zero_le hr0
      have hj : j < ws.length := by omega
      have hst2 := hide (hst.out.trans (lstep_in hj))
      obtain ⟨b2, off2, rfl, _, hd⟩ := (hW.mono hb).get hj
      have hx := hA.get hj
      generalize ws.getD j 0 = x at *
      have hm := fmul_bd p c x
      clear hst hl hw hW hA
      go_wp2_with fail
      have m0 := cell_later' hc0
      have m1 := cell_later' hc1
      have hd' := cell_later' hd
      refine wp_region_later Try.mixed (by kernel_rfl) ?_
      repeat (quiet_step (first | (go_at_call 21; exact Calls.later_of (rMul_any _ _ _ _ (by omega) (by omega) (by omega) (by omega))) | (go_at_call 24; exact Calls.later_of (rAdd_any _ _ _ _ (by omega) (by omega) (by omega) (by omega)))))
      refine wpQuiet_nil ?_
      intro w3 hb3
      replace hb3 := below_of_later hb3
      replace hb := below2 hb hb3
      clear m0 m1 hd' hd
      go_wp2
      go_roundw
      case rel => exact ⟨k + 1, by omega, by rw [← hN.out, hst2.out], rel_succ hlt hle.out, hb⟩
      case measure => exact meas_succ hlt hle.out
    · obtain rfl : k = L.length := by omega
      have hT := hide (show L.take L.length = L from List.take_length)
      go_wp2
      go_ret
      exact ⟨ret_int (by rw [hT.out]), hb⟩
end Go.Proofs.Ytlflkddgdbdebaa
