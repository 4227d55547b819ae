/- Circuits: the value of a linear combination, of the program and of the references. -/
import Derived.Test.YtlflkddgdbdebaaCircV
import Derived.Test.YtlflkddgdbdebaaCircY
import Derived.Test.YtlflkddgdbdebaaCircZ
namespace Go.Proofs.Ytlflkddgdbdebaa
open Go.RowKit

theorem lstep_in {p : Int} {W : List Int} {s : Int} {j : Nat} {c : Int} (h : j < W.length) : lstep p W s ((j : Int), c) = fadd p s (fmul p c (W.getD j 0)) := by
  unfold lstep
  rw [if_pos ⟨by omega, by simp only; omega⟩, Int.toNat_natCast]
theorem lstep_out {p : Int} {W : List Int} {s v c : Int} (h : ¬ (0 ≤ v ∧ v < (W.length : Int))) : lstep p W s (v, c) = s := by
  unfold lstep
  rw [if_neg h]

set_option maxHeartbeats 1600000 in
theorem tValue_any (p : Int) (s : Lc) (wa : Option Addr) (wc : Nat) (ws : List Int) (w : World) (hs : LcOk w s) (hW : Sl w .u64 wa ws) (hA : AllW ws) :
    Calls Try.prog 42 #[.int .u64 p, .slice s.ad s.l.length s.cap, .slice wa ws.length wc] w fun e w' => e = .returned (.int .u64 (lval p ws s.l)) ∧ Below w.heap.size w w' := by
  obtain ⟨a, cap, L⟩ := s
  have hl := hs.sl
  have hw := hs.wl
  have hle := hide (lc_len hs)
  clear hs
  simp only at hl hw ⊢
  go_enter Try.func42, Try.ntmps42
  go_wp2_with fail
  have g0 : Blk (w.alloc (.cells #[.int .u64 p] 75)) w.heap.size #[.int .u64 p] 75 := Blk.newAt rfl
  have hB0 := (Below.refl w.heap.size w).alloc (Nat.le_refl _) (.cells #[.int .u64 p] 75)
  go_loopw [8, 15] (fun t8 t15 wr => ∃ k : Nat, k ≤ L.length ∧ t8 = .int .u64 (lval p ws (L.take k)) ∧ t15 = .int .i64 k ∧ Below w.heap.size w wr ∧ Blk wr w.heap.size #[.int .u64 p] 75) (fun _ t15 _ => L.length - (intOf t15).toNat)
  case atStart => exact ⟨0, Nat.zero_le _, rfl, rfl, hB0, g0⟩
  case round =>
    clear g0 hB0
    obtain ⟨k, hk, rfl, rfl, hb, gr⟩ := hrel
    by_cases hlt : k < L.length
    · have hlt' : (k : Int) < L.length := by omega
      have hst := lval_step p ws L hlt
      have hbd := lval_bd p ws (L.take k)
      obtain ⟨b, off, rfl, _, hc0, hc1⟩ := (hl.mono hb).get hlt
      have hv := hw.get hlt
      obtain ⟨S, hS⟩ : ∃ S, S = lval p ws (L.take k) := ⟨_, rfl⟩
      obtain ⟨N, hN⟩ : ∃ N, N = lval p ws (L.take (k + 1)) := ⟨_, rfl⟩
      rw [← hS] at hbd hst ⊢
      rw [← hN] at hst
      replace hN := hide hN
      clear hS
      generalize L.getD k (0, 0) = t at *
      obtain ⟨v, c⟩ := t
      simp only at hc0 hc1 hv
      replace hst := hide hst
      have hBa := hb.alloc hb.size (.cells #[.int .i64 v, .int .u64 c] 53)
      have gA := gr.alloc (.cells #[.int .i64 v, .int .u64 c] 53)
      have gT : Blk (wr.alloc (.cells #[.int .i64 v, .int .u64 c] 53)) wr.heap.size #[.int .i64 v, .int .u64 c] 53 := Blk.newAt rfl
      by_cases hr0 : 0 ≤ v
      · by_cases hr1 : v < (ws.length : Int)
        · have hdd : True := trivial
          obtain ⟨j, rfl⟩ := Int.eq_ofNat_of_zero_le hr0
          have hj : j < ws.length := by omega
          have hst2 := hide (hst.out.trans (lstep_in hj))
          obtain ⟨b2, off2, rfl, _, hd⟩ := (hW.mono hb).get hj
          have hx := hA.get hj
          generalize ws.getD j 0 = x at *
          have hm := fmul_bd p c x
          replace hd := cell_below ((Below.refl wr.heap.size wr).alloc (Nat.le_refl _) (.cells #[.int .i64 j, .int .u64 c] 53)) hd
          clear hst hl hw hW hA
          go_wp2_with fail
          generalize wr.alloc (.cells #[.int .i64 j, .int .u64 c] 53) = W at *
          have k0 := cell_later' (gA.cell (j := 0) (v := .int .u64 p) rfl)
          have m0 := cell_later' (gT.cell (j := 0) (v := .int .i64 j) rfl)
          have m1 := cell_later' (gT.cell (j := 1) (v := .int .u64 c) rfl)
          have hd' := cell_later' hd
          refine wp_region_later Try.mixed (by kernel_rfl) ?_
          repeat (quiet_step (first | (go_at_call 43; exact Calls.later_of (Mul_any _ _ _ _ (by omega) (by omega) (by omega) (by omega))) | (go_at_call 68; exact Calls.later_of (Add_any _ _ _ _ (by omega) (by omega) (by omega) (by omega)))))
          refine wpQuiet_nil ?_
          intro w3 hb3
          replace hb3 := below_of_later hb3
          replace gA := gA.mono hb3
          replace hBa := below2 hBa hb3
          clear k0 m0 m1 hd' hd gT
          go_wp2
          go_roundw
          case rel => exact ⟨k + 1, by omega, by rw [← hN.out, hst2.out], rel_succ hlt hle.out, hBa, gA⟩
          case measure => exact meas_succ hlt hle.out
        · have hst2 := hide (hst.out.trans (lstep_out fun h => hr1 h.2))
          clear hst hl hw hW hA
          go_wp2_with fail
          go_roundw
          case rel => exact ⟨k + 1, by omega, by rw [← hN.out, hst2.out], rel_succ hlt hle.out, hBa, gA⟩
          case measure => exact meas_succ hlt hle.out
      · have hst2 := hide (hst.out.trans (lstep_out fun h => hr0 h.1))
        clear hst hl hw hW hA
        go_wp2_with fail
        go_roundw
        case rel => exact ⟨k + 1, by omega, by rw [← hN.out, hst2.out], rel_succ hlt hle.out, hBa, gA⟩
        case measure => exact meas_succ hlt hle.out
    · obtain rfl : k = L.length := by omega
      have hT := hide (show L.take L.length = L from List.take_length)
      go_wp2
      go_ret
      exact ⟨ret_int (by rw [hT.out]), hb⟩

set_option maxHeartbeats 1600000 in
theorem rValue_any (p : Int) (s : Lc) (wa : Option Addr) (wc : Nat) (ws : List Int) (w : World) (hs : LcOk w s) (hW : Sl w .u64 wa ws) (hA : AllW ws) :
    Calls Try.prog 20 #[.int .u64 p, .slice s.ad s.l.length s.cap, .slice wa ws.length wc] w fun e w' => e = .returned (.int .u64 (lval p ws s.l)) ∧ Below w.heap.size w w' := by
  obtain ⟨a, cap, L⟩ := s
  have hl := hs.sl
  have hw := hs.wl
  have hle := hide (lc_len hs)
  clear hs
  simp only at hl hw ⊢
  go_enter Try.func20, Try.ntmps20
  go_wp2_with fail
  go_loopw [7, 8] (fun t7 t8 wr => ∃ k : Nat, k ≤ L.length ∧ t7 = .int .u64 (lval p ws (L.take k)) ∧ t8 = .int .i64 k ∧ Below w.heap.size w wr) (fun _ t8 _ => L.length - (intOf t8).toNat)
  case atStart => exact ⟨0, Nat.zero_le _, rfl, rfl, Below.refl _ _⟩
  case round =>
    obtain ⟨k, hk, rfl, rfl, hb⟩ := hrel
    by_cases hlt : k < L.length
    · have hlt' : (k : Int) < L.length := by omega
      have hst := lval_step p ws L hlt
      have hbd := lval_bd p ws (L.take k)
      obtain ⟨b, off, rfl, _, hc0, hc1⟩ := (hl.mono hb).get hlt
      have hv := hw.get hlt
      obtain ⟨S, hS⟩ : ∃ S, S = lval p ws (L.take k) := ⟨_, rfl⟩
      obtain ⟨N, hN⟩ : ∃ N, N = lval p ws (L.take (k + 1)) := ⟨_, rfl⟩
      rw [← hS] at hbd hst ⊢
      rw [← hN] at hst
      replace hN := hide hN
      clear hS
      generalize L.getD k (0, 0) = t at *
      obtain ⟨v, c⟩ := t
      simp only at hc0 hc1 hv
      replace hst := hide hst
      by_cases hr0 : 0 ≤ v
      · by_cases hr1 : v < (ws.length : Int)
        · have hdd : True := trivial
          obtain ⟨j, rfl⟩ := Int.eq_ofNat_of_zero_le hr0
          have hj : j < ws.length := by omega
          have hst2 := hide (hst.out.trans (lstep_in hj))
          obtain ⟨b2, off2, rfl, _, hd⟩ := (hW.mono hb).get hj
          have hx := hA.get hj
          generalize ws.getD j 0 = x at *
          have hm := fmul_bd p c x
          clear hst hl hw hW hA
          go_wp2_with fail
          have m0 := cell_later' hc0
          have m1 := cell_later' hc1
          have hd' := cell_later' hd
          refine wp_region_later Try.mixed (by kernel_rfl) ?_
          repeat (quiet_step (first | (go_at_call 21; exact Calls.later_of (rMul_any _ _ _ _ (by omega) (by omega) (by omega) (by omega))) | (go_at_call 24; exact Calls.later_of (rAdd_any _ _ _ _ (by omega) (by omega) (by omega) (by omega)))))
          refine wpQuiet_nil ?_
          intro w3 hb3
          replace hb3 := below_of_later hb3
          replace hb := below2 hb hb3
          clear m0 m1 hd' hd
          go_wp2
          go_roundw
          case rel => exact ⟨k + 1, by omega, by rw [← hN.out, hst2.out], rel_succ hlt hle.out, hb⟩
          case measure => exact meas_succ hlt hle.out
        · have hst2 := hide (hst.out.trans (lstep_out fun h => hr1 h.2))
          clear hst hl hw hW hA
          go_wp2_with fail
          go_roundw
          case rel => exact ⟨k + 1, by omega, by rw [← hN.out, hst2.out], rel_succ hlt hle.out, hb⟩
          case measure => exact meas_succ hlt hle.out
      · have hst2 := hide (hst.out.trans (lstep_out fun h => hr0 h.1))
        clear hst hl hw hW hA
        go_wp2_with fail
        go_roundw
        case rel => exact ⟨k + 1, by omega, by rw [← hN.out, hst2.out], rel_succ hlt hle.out, hb⟩
        case measure => exact meas_succ hlt hle.out
    · obtain rfl : k = L.length := by omega
      have hT := hide (show L.take L.length = L from List.take_length)
      go_wp2
      go_ret
      exact ⟨ret_int (by rw [hT.out]), hb⟩

set_option maxHeartbeats 1600000 in
theorem rValue20_any (p : Int) (s : Lc) (wa : Option Addr) (wc : Nat) (ws : List Int) (w : World) (hs : LcOk w s) (hW : Sl w .u64 wa ws) (hA : AllW ws) (hin : ∀ i, i < s.l.length → 0 ≤ (s.l.getD i (0, 0)).1 ∧ (s.l.getD i (0, 0)).1 < (ws.length : Int)) :
    Calls Try.prog 72 #[.int .u64 p, .slice s.ad s.l.length s.cap, .slice wa ws.length wc] w fun e w' => e = .returned (.int .u64 (lval p ws s.l)) ∧ Below w.heap.size w w' := by
  obtain ⟨a, cap, L⟩ := s
  have hl := hs.sl
  have hw := hs.wl
  have hle := hide (lc_len hs)
  clear hs
  simp only at hl hw hin ⊢
  go_enter Try.func72, Try.ntmps72
  go_wp2_with fail
  go_loopw [7, 8] (fun t7 t8 wr => ∃ k : Nat, k ≤ L.length ∧ t7 = .int .u64 (lval p ws (L.take k)) ∧ t8 = .int .i64 k ∧ Below w.heap.size w wr) (fun _ t8 _ => L.length - (intOf t8).toNat)
  case atStart => exact ⟨0, Nat.zero_le _, rfl, rfl, Below.refl _ _⟩
  case round =>
    obtain ⟨k, hk, rfl, rfl, hb⟩ := hrel
    by_cases hlt : k < L.length
    · have hlt' : (k : Int) < L.length := by omega
      have hst := lval_step p ws L hlt
      have hbd := lval_bd p ws (L.take k)
      obtain ⟨hr0, hr1⟩ := hin k hlt
      clear hin
      obtain ⟨b, off, rfl, _, hc0, hc1⟩ := (hl.mono hb).get hlt
      have hv := hw.get hlt
      obtain ⟨S, hS⟩ : ∃ S, S = lval p ws (L.take k) := ⟨_, rfl⟩
      obtain ⟨N, hN⟩ : ∃ N, N = lval p ws (L.take (k + 1)) := ⟨_, rfl⟩
      rw [← hS] at hbd hst ⊢
      rw [← hN] at hst
      replace hN := hide hN
      clear hS
      generalize L.getD k (0, 0) = t at *
      obtain ⟨v, c⟩ := t
      simp only at hc0 hc1 hv
      replace hst := hide hst
      obtain ⟨j, rfl⟩ := Int.eq_ofNat_of_zero_le hr0
      have hj : j < ws.length := by omega
      have hst2 := hide (hst.out.trans (lstep_in hj))
      obtain ⟨b2, off2, rfl, _, hd⟩ := (hW.mono hb).get hj
      have hx := hA.get hj
      generalize ws.getD j 0 = x at *
      have hm := fmul_bd p c x
      clear hst hl hw hW hA
      go_wp2_with fail
      have m0 := cell_later' hc0
      have m1 := cell_later' hc1
      have hd' := cell_later' hd
      refine wp_region_later Try.mixed (by kernel_rfl) ?_
      repeat (quiet_step (first | (go_at_call 21; exact Calls.later_of (rMul_any _ _ _ _ (by omega) (by omega) (by omega) (by omega))) | (go_at_call 24; exact Calls.later_of (rAdd_any _ _ _ _ (by omega) (by omega) (by omega) (by omega)))))
      refine wpQuiet_nil ?_
      intro w3 hb3
      replace hb3 := below_of_later hb3
      replace hb := below2 hb hb3
      clear m0 m1 hd' hd
      go_wp2
      go_roundw
      case rel => exact ⟨k + 1, by omega, by rw [← hN.out, hst2.out], rel_succ hlt hle.out, hb⟩
      case measure => exact meas_succ hlt hle.out
    · obtain rfl : k = L.length := by omega
      have hT := hide (show L.take L.length = L from List.take_length)
      go_wp2
      go_ret
      exact ⟨ret_int (by rw [hT.out]), hb⟩

end Go.Proofs.Ytlflkddgdbdebaa

/- Circuits: which assignments satisfy a table, of the program and of the reference. -/
namespace Go.Proofs.Ytlflkddgdbdebaa
open Go.RowKit

theorem asn_no {p vars : Int} {W : List Int} (h : ¬ ((W.length : Int) = vars ∧ W.getD 0 0 = 1)) : asnOk p vars W = false := by
  unfold asnOk
  exact decide_eq_false fun hh => h ⟨hh.1, hh.2.1⟩
theorem asn_stop {p vars : Int} {W : List Int} {k : Nat} (hk : k < W.length) (h : p ≤ W.getD k 0) : asnOk p vars W = false := by
  unfold asnOk
  exact decide_eq_false fun hh => by have := hh.2.2 k hk; omega
theorem asn_all {p vars : Int} {W : List Int} (h : (W.length : Int) = vars ∧ W.getD 0 0 = 1) (h2 : ∀ k, k < W.length → W.getD k 0 < p) : asnOk p vars W = true := by
  unfold asnOk
  exact decide_eq_true ⟨h.1, h.2, h2⟩

set_option maxHeartbeats 1600000 in
theorem tAsn_any (p pub vars : Int) (ra : Option Addr) (R : List Rw) (rc : Nat) (wa : Option Addr) (wc : Nat) (ws : List Int) (w : World) (hW : Sl w .u64 wa ws) (hA : AllW ws) (h0 : 0 < vars) (h1 : vars ≤ 65536) :
    Calls Try.prog 74 #[.agg #[.int .u64 p, .int .i64 pub, .int .i64 vars, .slice ra R.length rc], .slice wa ws.length wc] w fun e w' => e = .returned (.bool (asnOk p vars ws)) ∧ Below w.heap.size w w' := by
  by_cases hl : (ws.length : Int) = vars
  · have hl2 : ((ws.length : Int) != vars) = false := by simp [hl]
    have hl16 : ws.length ≤ 65536 := by omega
    obtain ⟨b, off, rfl, hbl, hc⟩ := hW.get (i := 0) (by omega)
    have hpos : 0 < ws.length := by omega
    simp only [Nat.add_zero] at hc
    obtain ⟨x, hx⟩ : ∃ x, x = ws.getD 0 0 := ⟨_, rfl⟩
    rw [← hx] at hc
    by_cases hx1 : x = 1
    · have hx2 : (x != 1) = false := by simp [hx1]
      have hz := hide (show (ws.length : Int) = vars ∧ ws.getD 0 0 = 1 from ⟨hl, by rw [← hx]; exact hx1⟩)
      replace hx := hide hx
      replace hx1 := hide hx1
      replace hl := hide hl
      go_enter Try.func74, Try.ntmps74
      go_wp2_with fail
      go_loopw [20] (fun t20 wr => ∃ k : Nat, k ≤ ws.length ∧ t20 = .int .i64 k ∧ Below w.heap.size w wr ∧ Blk wr w.heap.size #[.int .u64 p, .int .i64 pub, .int .i64 vars, .slice ra R.length rc] 25 ∧ Hid (∀ j, j < k → ws.getD j 0 < p)) (fun t20 _ => ws.length - (intOf t20).toNat)
      case atStart => exact ⟨0, Nat.zero_le _, rfl, (Below.refl _ _).alloc (Nat.le_refl _) _, Blk.newAt rfl, hide fun j hj => by omega⟩
      case round =>
        obtain ⟨k, hk, rfl, hb, gr, hU⟩ := hrel
        clear hc
        have k0 := gr.cell (j := 0) (v := .int .u64 p) rfl
        by_cases hlt : k < ws.length
        · have hlt' : (k : Int) < ws.length := by omega
          obtain ⟨b2, off2, e2, _, hd⟩ := (hW.mono hb).get hlt
          cases e2
          have hst := hide (fun h => asn_stop (p := p) (vars := vars) hlt h)
          have hnx := hide (fun h : ws.getD k 0 < p => fun j (hj : j < k + 1) => (by
            rcases Nat.lt_or_ge j k with h2 | h2
            · exact hU.out j h2
            · have : j = k := by omega
              subst this; exact h : ws.getD j 0 < p))
          have hxr := hA.get hlt
          generalize ws.getD k 0 = y at *
          by_cases hy : p ≤ y
          · have hF := hide (hst.out hy)
            clear hst hnx hU
            go_wp2
            go_ret
            exact ⟨ret_bool' hF.out.symm, hb⟩
          · have hN := hide (hnx.out (by omega))
            clear hst hnx hU
            go_wp2
            go_roundw
            case rel => exact ⟨k + 1, by omega, by go_num, hb, gr, hN⟩
            case measure => simp [intOf]; omega
        · obtain rfl : k = ws.length := by omega
          have hF := hide (asn_all hz.out hU.out)
          go_wp2
          go_ret
          exact ⟨ret_bool' hF.out.symm, hb⟩
    · have hx2 : (x != 1) = true := by simpa using hx1
      have hF := hide (asn_no (p := p) (vars := vars) (W := ws) fun h => hx1 (by rw [hx]; exact h.2))
      replace hx := hide hx
      replace hx1 := hide hx1
      replace hl := hide hl
      go_enter Try.func74, Try.ntmps74
      go_wp2_with fail
      go_ret
      exact ⟨ret_bool' hF.out.symm, (Below.refl _ _).alloc (Nat.le_refl _) _⟩
  · have hl2 : ((ws.length : Int) != vars) = true := by simpa using hl
    have hF := hide (asn_no (p := p) (vars := vars) (W := ws) fun h => hl h.1)
    replace hl := hide hl
    go_enter Try.func74, Try.ntmps74
    go_wp2_with fail
    go_ret
    exact ⟨ret_bool' hF.out.symm, (Below.refl _ _).alloc (Nat.le_refl _) _⟩

set_option maxHeartbeats 1600000 in
theorem rAsn_any (p pub vars : Int) (ra : Option Addr) (R : List Rw) (rc : Nat) (wa : Option Addr) (wc : Nat) (ws : List Int) (w : World) (hW : Sl w .u64 wa ws) (hA : AllW ws) (h0 : 0 < vars) (h1 : vars ≤ 65536) :
    Calls Try.prog 76 #[.agg #[.int .u64 p, .int .i64 pub, .int .i64 vars, .slice ra R.length rc], .slice wa ws.length wc] w fun e w' => e = .returned (.bool (asnOk p vars ws)) ∧ Below w.heap.size w w' := by
  by_cases hl : (ws.length : Int) = vars
  · have hl2 : ((ws.length : Int) != vars) = false := by simp [hl]
    have hl16 : ws.length ≤ 65536 := by omega
    obtain ⟨b, off, rfl, hbl, hc⟩ := hW.get (i := 0) (by omega)
    have hpos : 0 < ws.length := by omega
    have hne : ((ws.length : Int) == 0) = false := by
      have : ¬ (ws.length : Int) = 0 := by omega
      simpa using this
    simp only [Nat.add_zero] at hc
    obtain ⟨x, hx⟩ : ∃ x, x = ws.getD 0 0 := ⟨_, rfl⟩
    rw [← hx] at hc
    by_cases hx1 : x = 1
    · have hx2 : (x != 1) = false := by simp [hx1]
      have hz := hide (show (ws.length : Int) = vars ∧ ws.getD 0 0 = 1 from ⟨hl, by rw [← hx]; exact hx1⟩)
      replace hx := hide hx
      replace hx1 := hide hx1
      replace hl := hide hl
      go_enter Try.func76, Try.ntmps76
      go_wp2_with fail
      go_loopw [5] (fun t5 wr => ∃ k : Nat, k ≤ ws.length ∧ t5 = .int .i64 k ∧ Below w.heap.size w wr ∧ Blk wr w.heap.size #[.int .u64 p, .int .i64 pub, .int .i64 vars, .slice ra R.length rc] 25 ∧ Hid (∀ j, j < k → ws.getD j 0 < p)) (fun t5 _ => ws.length - (intOf t5).toNat)
      case atStart => exact ⟨0, Nat.zero_le _, rfl, (Below.refl _ _).alloc (Nat.le_refl _) _, Blk.newAt rfl, hide fun j hj => by omega⟩
      case round =>
        obtain ⟨k, hk, rfl, hb, gr, hU⟩ := hrel
        clear hc
        have k0 := cell_later' (gr.cell (j := 0) (v := .int .u64 p) rfl)
        by_cases hlt : k < ws.length
        · have hlt' : (k : Int) < ws.length := by omega
          obtain ⟨b2, off2, e2, _, hd⟩ := (hW.mono hb).get hlt
          cases e2
          have hst := hide (fun h => asn_stop (p := p) (vars := vars) hlt h)
          have hnx := hide (fun h : ws.getD k 0 < p => fun j (hj : j < k + 1) => (by
            rcases Nat.lt_or_ge j k with h2 | h2
            · exact hU.out j h2
            · have : j = k := by omega
              subst this; exact h : ws.getD j 0 < p))
          have hxr := hA.get hlt
          generalize ws.getD k 0 = y at *
          replace hd := cell_later' hd
          by_cases hy : p ≤ y
          · have hF := hide (hst.out hy)
            clear hst hnx hU
            go_wp2_with fail
            refine wp_region_later Try.mixed (by kernel_rfl) ?_
            repeat (first | go_big_quiet_step (first | fail) | quiet_step (first | fail))
            refine wpQuiet_nil ?_
            intro w3 hb3
            replace hb3 := below_of_later hb3
            go_wp2
            go_ret
            exact ⟨ret_bool' hF.out.symm, below2 hb hb3⟩
          · have hN := hide (hnx.out (by omega))
            clear hst hnx hU
            go_wp2_with fail
            refine wp_region_later Try.mixed (by kernel_rfl) ?_
            repeat (first | go_big_quiet_step (first | fail) | quiet_step (first | fail))
            refine wpQuiet_nil ?_
            intro w3 hb3
            replace hb3 := below_of_later hb3
            go_wp2
            go_roundw
            case rel => exact ⟨k + 1, by omega, by go_num, below2 hb hb3, gr.mono hb3, hN⟩
            case measure => simp [intOf]; omega
        · obtain rfl : k = ws.length := by omega
          have hF := hide (asn_all hz.out hU.out)
          go_wp2
          go_ret
          exact ⟨ret_bool' hF.out.symm, hb⟩
    · have hx2 : (x != 1) = true := by simpa using hx1
      have hF := hide (asn_no (p := p) (vars := vars) (W := ws) fun h => hx1 (by rw [hx]; exact h.2))
      replace hx := hide hx
      replace hx1 := hide hx1
      replace hl := hide hl
      go_enter Try.func76, Try.ntmps76
      go_wp2_with fail
      go_ret
      exact ⟨ret_bool' hF.out.symm, (Below.refl _ _).alloc (Nat.le_refl _) _⟩
  · have hl2 : ((ws.length : Int) != vars) = true := by simpa using hl
    have hF := hide (asn_no (p := p) (vars := vars) (W := ws) fun h => hl h.1)
    replace hl := hide hl
    go_enter Try.func76, Try.ntmps76
    go_wp2_with fail
    go_ret
    exact ⟨ret_bool' hF.out.symm, (Below.refl _ _).alloc (Nat.le_refl _) _⟩

set_option maxHeartbeats 1600000 in
theorem rHolds_any (p : Int) (x y z : Lc) (wa : Option Addr) (wc : Nat) (ws : List Int) (w : World) (hW : Sl w .u64 wa ws) (hA : AllW ws) (hx : LcOk w x) (hy : LcOk w y) (hz : LcOk w z) :
    Calls Try.prog 87 #[.int .u64 p, .agg #[.slice x.ad x.l.length x.cap, .slice y.ad y.l.length y.cap, .slice z.ad z.l.length z.cap], .slice wa ws.length wc] w fun e w' => e = .returned (.bool (rowSat p ws ⟨x, y, z⟩)) ∧ Below w.heap.size w w' := by
  have hbx := lval_bd p ws x.l
  have hby := lval_bd p ws y.l
  have hbz := lval_bd p ws z.l
  have hrs : rowSat p ws ⟨x, y, z⟩ = (fmul p (lval p ws x.l) (lval p ws y.l) == lval p ws z.l) := rfl
  go_enter Try.func87, Try.ntmps87
  go_wp2_with fail
  refine name_world fun W hN => ?_
  have g1 : Blk W w.heap.size #[.slice x.ad x.l.length x.cap, .slice y.ad y.l.length y.cap, .slice z.ad z.l.length z.cap] 51 := by rw [hN]; exact Blk.newAt rfl
  have hB : Below w.heap.size w W := by rw [hN]; exact (Below.refl _ _).alloc (Nat.le_refl _) _
  clear hN
  have r0 := cell_later' (g1.cell (j := 0) (v := .slice x.ad x.l.length x.cap) rfl)
  have r1 := cell_later' (g1.cell (j := 1) (v := .slice y.ad y.l.length y.cap) rfl)
  have r2 := cell_later' (g1.cell (j := 2) (v := .slice z.ad z.l.length z.cap) rfl)
  have cx := fun P => rValue_any p x wa wc ws (later W P) ((hx.mono hB).mono (below_later _ _)) ((hW.mono hB).mono (below_later _ _)) hA
  have cy := fun P => rValue_any p y wa wc ws (later W P) ((hy.mono hB).mono (below_later _ _)) ((hW.mono hB).mono (below_later _ _)) hA
  have cz := fun P => rValue_any p z wa wc ws (later W P) ((hz.mono hB).mono (below_later _ _)) ((hW.mono hB).mono (below_later _ _)) hA
  generalize lval p ws x.l = vx at *
  generalize lval p ws y.l = vy at *
  generalize lval p ws z.l = vz at *
  have cm := fun P => rMul_any p vx vy (later W P) (by omega) (by omega) (by omega) (by omega)
  replace hrs := hide hrs
  clear hx hy hz hW hA
  refine wp_region_later Try.mixed (by kernel_rfl) ?_
  repeat (first | go_big_quiet_step (first | (go_at_call_of 20 (Lc.l x); exact Calls.later_of (cx _)) | (go_at_call_of 20 (Lc.l y); exact Calls.later_of (cy _)) | (go_at_call_of 20 (Lc.l z); exact Calls.later_of (cz _)) | (go_at_call 21; exact Calls.later_of (cm _))) | quiet_step (first | (go_at_call_of 20 (Lc.l x); exact Calls.later_of (cx _)) | (go_at_call_of 20 (Lc.l y); exact Calls.later_of (cy _)) | (go_at_call_of 20 (Lc.l z); exact Calls.later_of (cz _)) | (go_at_call 21; exact Calls.later_of (cm _))))
  refine wpQuiet_nil ?_
  intro w3 hb3
  replace hb3 := below_of_later hb3
  go_wp2
  go_ret
  exact ⟨ret_bool' hrs.out.symm, below2 hB hb3⟩

end Go.Proofs.Ytlflkddgdbdebaa

/- Circuits: Satisfied, of the program and of the reference. -/
namespace Go.Proofs.Ytlflkddgdbdebaa
open Go.RowKit

/-- A number is returned that is negative exactly if all rows are satisfied. -/
def RetU (p : Int) (ws : List Int) (R : List Rw) (w : World) (e : Ending) (w' : World) : Prop := ∃ i : Int, e = .returned (.int .i64 i) ∧ (i < 0 ↔ rowsSat p ws R = true) ∧ Below w.heap.size w w'
theorem rs_stop {p : Int} {W : List Int} {R : List Rw} {k : Nat} (hk : k < R.length) (h : rowSat p W (R.getD k default) = false) : rowsSat p W R = false := by
  unfold rowsSat
  exact decide_eq_false fun hh => by have := hh k hk; rw [h] at this; cases this
theorem rs_all {p : Int} {W : List Int} {R : List Rw} (h : ∀ k, k < R.length → rowSat p W (R.getD k default) = true) : rowsSat p W R = true := by
  unfold rowsSat
  exact decide_eq_true h
theorem RetU.no {p : Int} {ws : List Int} {R : List Rw} {w w' : World} (k : Nat) (h : rowsSat p ws R = false) (hb : Below w.heap.size w w') : RetU p ws R w (.returned (.int .i64 (k : Int))) w' :=
  ⟨k, rfl, ⟨fun h => by omega, fun h2 => by rw [h] at h2; cases h2⟩, hb⟩
theorem RetU.all {p : Int} {ws : List Int} {R : List Rw} {w w' : World} (h : rowsSat p ws R = true) (hb : Below w.heap.size w w') : RetU p ws R w (.returned (.int .i64 (-1))) w' :=
  ⟨-1, rfl, ⟨fun _ => h, fun _ => by omega⟩, hb⟩

set_option maxHeartbeats 1600000 in
theorem tUnsat_any (p pub vars : Int) (ra : Option Addr) (R : List Rw) (rc : Nat) (wa : Option Addr) (wc : Nat) (ws : List Int) (w : World) (hR : RowsP w ra rc R) (hW : Sl w .u64 wa ws) (hA : AllW ws) (hl16 : R.length ≤ 16384) :
    Calls Try.prog 75 #[.agg #[.int .u64 p, .int .i64 pub, .int .i64 vars, .slice ra R.length rc], .slice wa ws.length wc] w (RetU p ws R w) := by
  go_enter Try.func75, Try.ntmps75
  go_wp2_with fail
  go_loopw [14] (fun t14 wr => ∃ k : Nat, k ≤ R.length ∧ t14 = .int .i64 k ∧ Below w.heap.size w wr ∧ Blk wr w.heap.size #[.int .u64 p, .int .i64 pub, .int .i64 vars, .slice ra R.length rc] 25 ∧ Blk wr (w.heap.size + 1) #[.int .u64 p] 75 ∧ Hid (∀ j, j < k → rowSat p ws (R.getD j default) = true)) (fun t14 _ => R.length - (intOf t14).toNat)
  case atStart => exact ⟨0, Nat.zero_le _, rfl, ((Below.refl _ _).alloc (Nat.le_refl _) _).alloc (by simp) _, (Blk.newAt rfl).alloc _, Blk.newAt (by simp), hide fun j hj => by omega⟩
  case round =>
    obtain ⟨k, hk, rfl, hb, g0, g1, hU⟩ := hrel
    by_cases hlt : k < R.length
    · have hlt' : (k : Int) < R.length := by omega
      have hR' := hR.mono hb
      obtain ⟨b, off, e, _, hc⟩ := hR'.s (by omega)
      obtain ⟨hc0, hc1, hc2⟩ := hc k hlt
      obtain ⟨hx, hy, hz⟩ := hR'.ok _ (getD_mem' hlt default)
      have hst := hide (fun h => rs_stop (p := p) (W := ws) hlt h)
      have hnx := hide (fun h : rowSat p ws (R.getD k default) = true => fun j (hj : j < k + 1) => (by
        rcases Nat.lt_or_ge j k with h2 | h2
        · exact hU.out j h2
        · have : j = k := by omega
          subst this; exact h : rowSat p ws (R.getD j default) = true))
      clear hc hR' hU hR
      generalize R.getD k default = r at *
      obtain ⟨x, y, z⟩ := r
      simp only at hc0 hc1 hc2 hx hy hz
      have hBa := hb.alloc hb.size (.cells #[.slice x.ad x.l.length x.cap, .slice y.ad y.l.length y.cap, .slice z.ad z.l.length z.cap] 51)
      have hBw := (Below.refl wr.heap.size wr).alloc (Nat.le_refl _) (.cells #[.slice x.ad x.l.length x.cap, .slice y.ad y.l.length y.cap, .slice z.ad z.l.length z.cap] 51)
      have gT : Blk (wr.alloc (.cells #[.slice x.ad x.l.length x.cap, .slice y.ad y.l.length y.cap, .slice z.ad z.l.length z.cap] 51)) wr.heap.size #[.slice x.ad x.l.length x.cap, .slice y.ad y.l.length y.cap, .slice z.ad z.l.length z.cap] 51 := Blk.newAt rfl
      have g0A := g0.alloc (.cells #[.slice x.ad x.l.length x.cap, .slice y.ad y.l.length y.cap, .slice z.ad z.l.length z.cap] 51)
      have g1A := g1.alloc (.cells #[.slice x.ad x.l.length x.cap, .slice y.ad y.l.length y.cap, .slice z.ad z.l.length z.cap] 51)
      replace hx := hx.mono hBw
      replace hy := hy.mono hBw
      replace hz := hz.mono hBw
      subst e
      go_wp2_with fail
      generalize wr.alloc (.cells #[.slice x.ad x.l.length x.cap, .slice y.ad y.l.length y.cap, .slice z.ad z.l.length z.cap] 51) = W at *
      have q0 := cell_later' (g0A.cell (j := 0) (v := .int .u64 p) rfl)
      have q1 := cell_later' (g1A.cell (j := 0) (v := .int .u64 p) rfl)
      have r0 := cell_later' (gT.cell (j := 0) (v := .slice x.ad x.l.length x.cap) rfl)
      have r1 := cell_later' (gT.cell (j := 1) (v := .slice y.ad y.l.length y.cap) rfl)
      have r2 := cell_later' (gT.cell (j := 2) (v := .slice z.ad z.l.length z.cap) rfl)
      have hWW := hW.mono hBa
      have cx := fun P => tValue_any p x wa wc ws (later W P) (hx.mono (below_later _ _)) (hWW.mono (below_later _ _)) hA
      have cy := fun P => tValue_any p y wa wc ws (later W P) (hy.mono (below_later _ _)) (hWW.mono (below_later _ _)) hA
      have cz := fun P => tValue_any p z wa wc ws (later W P) (hz.mono (below_later _ _)) (hWW.mono (below_later _ _)) hA
      have hbx := lval_bd p ws x.l
      have hby := lval_bd p ws y.l
      have hbz := lval_bd p ws z.l
      have hrs : rowSat p ws ⟨x, y, z⟩ = (fmul p (lval p ws x.l) (lval p ws y.l) == lval p ws z.l) := rfl
      have hbm := fmul_bd p (lval p ws x.l) (lval p ws y.l)
      have cm := fun P => Mul_any p (lval p ws x.l) (lval p ws y.l) (later W P) hbx.1 hbx.2 hby.1 hby.2
      generalize fmul p (lval p ws x.l) (lval p ws y.l) = vm at *
      generalize lval p ws x.l = vx at *
      generalize lval p ws y.l = vy at *
      generalize lval p ws z.l = vz at *
      generalize rowSat p ws ⟨x, y, z⟩ = q at *
      replace hrs := hide hrs
      clear hx hy hz hW hWW hA hc0 hc1 hc2
      refine wp_region_later Try.mixed (by kernel_rfl) ?_
      repeat (first | go_big_quiet_step (first | (go_at_call_of 42 (Lc.l x); exact Calls.later_of (cx _)) | (go_at_call_of 42 (Lc.l y); exact Calls.later_of (cy _)) | (go_at_call_of 42 (Lc.l z); exact Calls.later_of (cz _)) | (go_at_call 43; exact Calls.later_of (cm _))) | quiet_step (first | (go_at_call_of 42 (Lc.l x); exact Calls.later_of (cx _)) | (go_at_call_of 42 (Lc.l y); exact Calls.later_of (cy _)) | (go_at_call_of 42 (Lc.l z); exact Calls.later_of (cz _)) | (go_at_call 43; exact Calls.later_of (cm _))))
      refine wpQuiet_nil ?_
      intro w3 hb3
      replace hb3 := below_of_later hb3
      replace hBa := below2 hBa hb3
      replace g0A := g0A.mono hb3
      replace g1A := g1A.mono hb3
      clear cx cy cz cm q0 q1 r0 r1 r2 gT hb3 g0 g1 hBw
      by_cases hq : vm = vz
      · have hq2 : (vm != vz) = false := by simp [hq]
        have hN := hide (hnx.out (by rw [hrs.out]; simp [hq]))
        replace hq := hide hq
        clear hst hnx hrs
        go_wp2
        go_roundw
        case rel => exact ⟨k + 1, by omega, by go_num, hBa, g0A, g1A, hN⟩
        case measure => simp [intOf]; omega
      · have hq2 : (vm != vz) = true := by simpa using hq
        have hF := hide (hst.out (by rw [hrs.out]; simpa using hq))
        replace hq := hide hq
        clear hst hnx hrs
        go_wp2
        go_ret
        exact RetU.no k hF.out hBa
    · obtain rfl : k = R.length := by omega
      have hF := hide (rs_all hU.out)
      go_wp2
      go_ret
      exact RetU.all hF.out hb

set_option maxHeartbeats 1600000 in
theorem tSat_any (p pub vars : Int) (ra : Option Addr) (R : List Rw) (rc : Nat) (wa : Option Addr) (wc : Nat) (ws : List Int) (w : World) (hR : RowsP w ra rc R) (hW : Sl w .u64 wa ws) (hA : AllW ws) :
    Calls Try.prog 46 #[.agg #[.int .u64 p, .int .i64 pub, .int .i64 vars, .slice ra R.length rc], .slice wa ws.length wc] w fun e w' => e = .returned (.bool (satOk p pub vars R ws)) ∧ Below w.heap.size w w' := by
  have cT := fun W h => tValid_any p pub vars ra R rc W h
  have cA := fun W h1 h2 h3 => tAsn_any p pub vars ra R rc wa wc ws W h1 hA h2 h3
  have cU := fun W h1 h2 h3 => tUnsat_any p pub vars ra R rc wa wc ws W h1 h2 hA h3
  have hs : satOk p pub vars R ws = (tblOk p pub vars R && asnOk p vars ws && rowsSat p ws R) := rfl
  obtain ⟨T, hT⟩ : ∃ T, T = tblOk p pub vars R := ⟨_, rfl⟩
  rw [← hT] at cT hs
  replace hT := hide hT
  generalize asnOk p vars ws = A at *
  generalize satOk p pub vars R ws = S at *
  replace hs := hide hs
  go_enter Try.func46, Try.ntmps46
  go_wp2_with fail
  refine name_calls fun W hN => ?_
  have g0 : Blk W w.heap.size #[.int .u64 p, .int .i64 pub, .int .i64 vars, .slice ra R.length rc] 25 := by rw [hN]; exact Blk.newAt rfl
  have hB : Below w.heap.size w W := by rw [hN]; exact (Below.refl _ _).alloc (Nat.le_refl _) _
  clear hN
  refine (cT W (hR.mono hB)).mono ?_
  rintro e w1 ⟨rfl, hb1⟩
  replace hB := below2 hB hb1
  replace g0 := g0.mono hb1
  clear hb1 cT
  have k0 := g0.cell (j := 0) (v := .int .u64 p) rfl; have k1 := g0.cell (j := 1) (v := .int .i64 pub) rfl; have k2 := g0.cell (j := 2) (v := .int .i64 vars) rfl; have k3 := g0.cell (j := 3) (v := .slice ra R.length rc) rfl
  cases T with
  | false =>
    have hF := hide (show S = false by rw [hs.out]; rfl)
    clear cA cU hs
    go_wp2
    go_ret
    exact ⟨ret_bool' hF.out.symm, hB⟩
  | true =>
    obtain ⟨_, hp0, hp1, hp2, hp3⟩ := tbl_bd hT.out.symm
    go_wp2_with fail
    refine (cA w1 (hW.mono hB) (by omega) hp2).mono ?_
    rintro e w2 ⟨rfl, hb2⟩
    replace hB := below2 hB hb2
    replace g0 := g0.mono hb2
    clear hb2 cA k0 k1 k2 k3
    have k0 := g0.cell (j := 0) (v := .int .u64 p) rfl; have k1 := g0.cell (j := 1) (v := .int .i64 pub) rfl; have k2 := g0.cell (j := 2) (v := .int .i64 vars) rfl; have k3 := g0.cell (j := 3) (v := .slice ra R.length rc) rfl
    cases A with
    | false =>
      have hF := hide (show S = false by rw [hs.out]; rfl)
      clear cU hs
      go_wp2
      go_ret
      exact ⟨ret_bool' hF.out.symm, hB⟩
    | true =>
      go_wp2_with fail
      refine (cU w2 (hR.mono hB) (hW.mono hB) hp3).mono ?_
      rintro e w3 ⟨i, rfl, hi, hb3⟩
      replace hB := below2 hB hb3
      clear hb3 cU k0 k1 k2 k3
      have hF := hide (show S = decide (i < 0) by rw [hs.out]; simp only [Bool.true_and, hi]; cases rowsSat p ws R <;> rfl)
      clear hs hi
      go_wp2
      go_ret
      exact ⟨ret_bool' hF.out.symm, hB⟩
end Go.Proofs.Ytlflkddgdbdebaa
