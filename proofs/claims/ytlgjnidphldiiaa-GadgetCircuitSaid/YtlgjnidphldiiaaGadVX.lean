/- Gadgets: Right of the reference. -/
import Derived.Test.YtlgjnidphldiiaaGadAC
import Derived.Test.YtlgjnidphldiiaaCircV
import Derived.Test.YtlgjnidphldiiaaGm
import Derived.Test.YtlgjnidphldiiaaGadS
import Derived.Test.YtlgjnidphldiiaaGadQR
import Derived.Test.YtlgjnidphldiiaaCircEK
namespace Go.Proofs.Ytlgjnidphldiiaa
open Go.RowKit

set_option maxRecDepth 10000 in
set_option maxHeartbeats 16000000 in
theorem rRight_any (p n : Int) (s : Lc) (w : World) (hs : LcOk w s) :
    Calls Try.prog 34 #[.int .u64 p, .slice s.ad s.l.length s.cap, .int .i64 n] w fun e w' => e = .returned (.bool (linOk p n s.l)) ∧ Below w.heap.size w w' := by
  obtain ⟨a, cap, L⟩ := s
  have hl := hs.sl
  have hw := hs.wl
  have hle := hide (lc_len hs)
  clear hs
  simp only at hl hw ⊢
  go_enter Try.func34, Try.ntmps34
  go_wp2
  go_loopw [7] (fun t7 wr => ∃ (k : Nat) (lst : Int), k ≤ L.length ∧ t7 = .int .i64 k ∧ Below w.heap.size w wr ∧ LinUpTo p n L k lst) (fun t7 _ => L.length - (intOf t7).toNat)
  case atStart => exact ⟨0, -1, Nat.zero_le _, rfl, Below.refl _ _, .zero _ _ _⟩
  case round =>
    obtain ⟨k, lst, hk, rfl, hB, hU⟩ := hrel
    by_cases hlt : k < L.length
    · have hlt' : (k : Int) < L.length := by omega
      have hW := hw.get hlt
      have hst := hide (fun h => linOk_stop (p := p) (n := n) hlt h)
      have hat := hide hU.at_
      have hnx := hide (fun h => hU.next h)
      have hlo := hU.lo
      obtain ⟨b, off, rfl, _, hc⟩ := (hl.mono hB) (by omega)
      obtain ⟨hc0, hc1⟩ := hc k hlt
      have hcp : 0 < k → wr.cell? ⟨b, off + (k - 1) * 2, none⟩ = some (.int .i64 lst) := fun h => by rw [hU.2.2 h]; exact (hc (k - 1) (by omega)).1
      have hz := hU.2.1
      generalize L.getD k (0, 0) = t at *
      obtain ⟨v, c⟩ := t
      simp only at hc0 hc1 hW hat hnx
      replace hc0 := cell_later' hc0
      replace hc1 := cell_later' hc1
      clear hU hl hw hc
      by_cases h1 : v < 0
      · have hR := hide (hst.out fun h => by have := (hat.out.1 h).1; omega)
        clear hst hat hnx hcp hz
        go_wp2_with fail
        refine wp_region_later Try.mixed (by kernel_rfl) ?_
        repeat (first | go_big_quiet_step (first | fail) | quiet_step (first | fail))
        refine wpQuiet_nil ?_
        intro w3 hb3
        replace hb3 := below_of_later hb3
        go_wp2
        go_ret
        exact ⟨ret_bool' hR.out.symm, below2 hB hb3⟩
      by_cases h2 : n ≤ v
      · have hR := hide (hst.out fun h => by have := (hat.out.1 h).2.1; omega)
        clear hst hat hnx hcp hz
        go_wp2_with fail
        refine wp_region_later Try.mixed (by kernel_rfl) ?_
        repeat (first | go_big_quiet_step (first | fail) | quiet_step (first | fail))
        refine wpQuiet_nil ?_
        intro w3 hb3
        replace hb3 := below_of_later hb3
        go_wp2
        go_ret
        exact ⟨ret_bool' hR.out.symm, below2 hB hb3⟩
      by_cases h3 : c = 0
      · have hR := hide (hst.out fun h => (hat.out.1 h).2.2.1 h3)
        have h3' : (c == 0) = true := by simp [h3]
        replace h3 := hide h3
        clear hst hat hnx hcp hz
        go_wp2_with fail
        refine wp_region_later Try.mixed (by kernel_rfl) ?_
        repeat (first | go_big_quiet_step (first | fail) | quiet_step (first | fail))
        refine wpQuiet_nil ?_
        intro w3 hb3
        replace hb3 := below_of_later hb3
        go_wp2
        go_ret
        exact ⟨ret_bool' hR.out.symm, below2 hB hb3⟩
      have h3' : (c == 0) = false := by simpa using h3
      by_cases h4 : p ≤ c
      · have hR := hide (hst.out fun h => by have := (hat.out.1 h).2.2.2; omega)
        clear hst hat hnx hcp hz
        go_wp2_with fail
        refine wp_region_later Try.mixed (by kernel_rfl) ?_
        repeat (first | go_big_quiet_step (first | fail) | quiet_step (first | fail))
        refine wpQuiet_nil ?_
        intro w3 hb3
        replace hb3 := below_of_later hb3
        go_wp2
        go_ret
        exact ⟨ret_bool' hR.out.symm, below2 hB hb3⟩
      by_cases hk0 : 0 < k
      · have hkd : decide (0 < k) = true := by simpa using hk0
        have hcp := cell_later' (hcp (by omega))
        obtain ⟨j, hj⟩ : ∃ j : Nat, j = k - 1 := ⟨_, rfl⟩
        rw [← hj] at hcp
        have hjl : j < L.length := by omega
        have hjk : (k : Int) - 1 = j := by omega
        have hjw : wrap64 (j : Int) = j := by have := hle.out; unfold wrap64; omega
        clear hz
        replace hj := hide hj
        by_cases h0 : v ≤ lst
        · have hR := hide (hst.out fun h => by have := (hat.out.1 h).1; omega)
          clear hst hat hnx
          go_wp2_with fail
          refine wp_region_later Try.mixed (by kernel_rfl) ?_
          repeat (first | go_big_quiet_step (first | fail) | quiet_step (first | fail))
          refine wpQuiet_nil ?_
          intro w3 hb3
          replace hb3 := below_of_later hb3
          go_wp2
          go_ret
          exact ⟨ret_bool' hR.out.symm, below2 hB hb3⟩
        have hN := hide (hnx.out (hat.out.2 ⟨by omega, by omega, h3, by omega⟩))
        clear hst hat hnx
        go_wp2_with fail
        refine wp_region_later Try.mixed (by kernel_rfl) ?_
        repeat (first | go_big_quiet_step (first | fail) | quiet_step (first | fail))
        refine wpQuiet_nil ?_
        intro w3 hb3
        replace hb3 := below_of_later hb3
        go_wp2
        go_roundw
        case rel => exact ⟨k + 1, v, by omega, rel_succ hlt hle.out, below2 hB hb3, hN.out⟩
        case measure => exact meas_succ hlt hle.out
      · have hkd : decide (0 < k) = false := by simpa using hk0
        have hlst := hz (by omega)
        clear hcp hz
        have hN := hide (hnx.out (hat.out.2 ⟨by omega, by omega, h3, by omega⟩))
        clear hst hat hnx
        go_wp2_with fail
        refine wp_region_later Try.mixed (by kernel_rfl) ?_
        repeat (first | go_big_quiet_step (first | fail) | quiet_step (first | fail))
        refine wpQuiet_nil ?_
        intro w3 hb3
        replace hb3 := below_of_later hb3
        go_wp2
        go_roundw
        case rel => exact ⟨k + 1, v, by omega, (by first | exact rel_succ hlt hle.out | rfl), below2 hB hb3, hN.out⟩
        case measure => first | exact meas_succ hlt hle.out | (simp only [intOf]; omega)
    · obtain rfl : k = L.length := by omega
      have hR := hide hU.all
      clear hU
      go_wp2
      go_ret
      exact ⟨ret_bool' hR.out.symm, hB⟩
end Go.Proofs.Ytlgjnidphldiiaa

/- Gadgets: scripts: Right and Width; what the reference finds of a circuit: bounded, Satisfied. -/
namespace Go.Proofs.Ytlgjnidphldiiaa
open Go.RowKit

set_option maxRecDepth 10000 in
set_option maxHeartbeats 4000000 in
theorem sRight_any (p pub sec : Int) (la : Option Addr) (n lc : Nat) (m : Int) (w : World) :
    Calls Try.prog 39 #[.agg #[.int .u64 p, .int .u8 pub, .int .u8 sec, .slice la n lc], .int .i64 m] w fun e w' => e = .returned (.bool (vld p && decide (pub ≤ 4) && decide (sec ≤ 4) && decide ((n : Int) ≤ m))) ∧ Below w.heap.size w w' := by
  have cV := fun W => rValid_any p W
  generalize vld p = v at *
  go_enter Try.func39, Try.ntmps39
  go_wp2_with fail
  refine name_calls fun w1 hN => ?_
  have g1 : Blk w1 w.heap.size #[.int .u64 p, .int .u8 pub, .int .u8 sec, .slice la n lc] 66 := by rw [hN]; exact Blk.newAt rfl
  have hb1 : Below w.heap.size w w1 := by rw [hN]; exact (Below.refl _ _).alloc (Nat.le_refl _) _
  clear hN
  refine (cV w1).mono ?_
  rintro e w2 ⟨rfl, hb2⟩
  replace g1 := g1.mono hb2
  replace hb1 := below2 hb1 hb2
  have k1 := g1.cell (j := 1) (v := .int .u8 pub) rfl
  have k2 := g1.cell (j := 2) (v := .int .u8 sec) rfl
  have k3 := g1.cell (j := 3) (v := .slice la n lc) rfl
  clear cV hb2
  cases v with
  | false =>
    go_wp2
    go_ret
    exact ⟨rfl, hb1⟩
  | true =>
    by_cases h1 : pub ≤ 4
    · by_cases h2 : sec ≤ 4
      · go_wp2
        go_ret
        exact ⟨by simp [h1, h2], hb1⟩
      · go_wp2
        go_ret
        exact ⟨by simp; omega, hb1⟩
    · go_wp2
      go_ret
      exact ⟨by simp; omega, hb1⟩

/-- The number of bits that a script's operation has at most. -/
def wid (p : Int) : Int := if p = 17 then 3 else if p = 97 then 5 else 6
theorem wid_bd {p : Int} (hv : vld p = true) : 1 ≤ wid p ∧ wid p ≤ 6 ∧ (2 : Int) ^ ((wid p).toNat + 1) < p := by
  rcases vld_cases hv with rfl | rfl | rfl | rfl | rfl | rfl | rfl <;> decide
theorem wid_step {p : Int} (hv : vld p = true) {k : Int} (h : 1 ≤ k) (h6 : k < 6) : (2 : Int) ^ ((k + 2).toNat) < p ↔ k < wid p := by
  have : k = 1 ∨ k = 2 ∨ k = 3 ∨ k = 4 ∨ k = 5 := by omega
  rcases vld_cases hv with rfl | rfl | rfl | rfl | rfl | rfl | rfl <;> rcases this with rfl | rfl | rfl | rfl | rfl <;> decide

set_option maxRecDepth 10000 in
set_option maxHeartbeats 8000000 in
theorem sWidth_any (p pub sec : Int) (la : Option Addr) (n lc : Nat) (m : Int) (w : World) (hv : vld p = true) (hm : 0 ≤ m ∧ m < 256) :
    Calls Try.prog 42 #[.agg #[.int .u64 p, .int .u8 pub, .int .u8 sec, .slice la n lc], .int .u8 m] w fun e w' => e = .returned (.int .i64 (m % (wid p + 1))) ∧ Below w.heap.size w w' := by
  have d1 := (wid_bd hv).1
  have d6 := (wid_bd hv).2.1
  have hst := fun k (h1 : 1 ≤ k) (h6 : k < 6) => wid_step hv (k := k) h1 h6
  generalize wid p = d at *
  replace hst := hide hst
  have hp := vld_pos hv
  clear hv
  go_enter Try.func42, Try.ntmps42
  go_wp2_with fail
  have g1 : Blk (w.alloc (.cells #[.int .u64 p, .int .u8 pub, .int .u8 sec, .slice la n lc] 66)) w.heap.size #[.int .u64 p, .int .u8 pub, .int .u8 sec, .slice la n lc] 66 := Blk.newAt rfl
  have hb1 : Below w.heap.size w (w.alloc (.cells #[.int .u64 p, .int .u8 pub, .int .u8 sec, .slice la n lc] 66)) := (Below.refl _ _).alloc (Nat.le_refl _) _
  generalize w.alloc (.cells #[.int .u64 p, .int .u8 pub, .int .u8 sec, .slice la n lc] 66) = w1 at *
  go_loopw [5] (fun t5 wr => ∃ k : Int, 1 ≤ k ∧ k ≤ d ∧ t5 = .int .i64 k ∧ Below w1.heap.size w1 wr) (fun t5 _ => 6 - (intOf t5).toNat)
  case atStart => exact ⟨1, by omega, d1, rfl, Below.refl _ _⟩
  case round =>
    obtain ⟨k, k1, kd, rfl, hb⟩ := hrel
    have gr := g1.mono hb
    have c0 := cell_later' (gr.cell (j := 0) (v := .int .u64 p) rfl)
    by_cases h6 : k < 6
    · have hs := hide (hst.out k k1 h6)
      have h2p : (2 : Int) ^ ((k + 2).toNat) < 18446744073709551616 ∧ 0 < (2 : Int) ^ ((k + 2).toNat) := by
        have : k = 1 ∨ k = 2 ∨ k = 3 ∨ k = 4 ∨ k = 5 := by omega
        rcases this with rfl | rfl | rfl | rfl | rfl <;> decide
      have hw : IntKind.u64.wrap (2 ^ ((k + 2).toNat)) = 2 ^ ((k + 2).toNat) := by rw [IntKind.wrap_u64]; omega
      by_cases hlt : k < d
      · have hq : IntKind.u64.wrap (2 ^ ((k + 2).toNat)) < p := by rw [hw]; exact hs.out.2 hlt
        clear hw h2p hs
        go_wp2_with fail
        refine wp_region_later Try.mixed (by kernel_rfl) ?_
        repeat (first | go_big_quiet_step (first | fail) | quiet_step (first | fail))
        refine wpQuiet_nil ?_
        intro w3 hb3
        replace hb3 := below_of_later hb3
        replace hb := below2 hb hb3
        go_wp2
        go_roundw
        case rel => exact ⟨k + 1, by omega, by omega, by go_num, hb⟩
        case measure => simp [intOf]; omega
      · have hq : p ≤ IntKind.u64.wrap (2 ^ ((k + 2).toNat)) := by
          rw [hw]
          exact Int.not_lt.1 fun h => hlt (hs.out.1 h)
        obtain rfl : k = d := by omega
        clear hw h2p hs
        go_wp2_with fail
        refine wp_region_later Try.mixed (by kernel_rfl) ?_
        repeat (first | go_big_quiet_step (first | fail) | quiet_step (first | fail))
        refine wpQuiet_nil ?_
        intro w3 hb3
        replace hb3 := below_of_later hb3
        go_wp2
        go_ret
        exact ⟨rfl, below2 hb1 (below2 hb hb3)⟩
    · obtain rfl : k = 6 := by omega
      obtain rfl : d = 6 := by omega
      go_wp2_with fail
      refine wp_region_later Try.mixed (by kernel_rfl) ?_
      repeat (first | go_big_quiet_step (first | fail) | quiet_step (first | fail))
      refine wpQuiet_nil ?_
      intro w3 hb3
      replace hb3 := below_of_later hb3
      go_wp2
      go_ret
      exact ⟨rfl, below2 hb1 (below2 hb hb3)⟩

end Go.Proofs.Ytlgjnidphldiiaa

/- Gadgets: what the reference finds of a circuit: bounded, Satisfied. -/
namespace Go.Proofs.Ytlgjnidphldiiaa
open Go.RowKit

theorem hint_more {p v : Int} {h : Hn} (e : hintOk p v h = true) : linOk p v h.a.l = true ∧ linOk p v h.b.l = true ∧ 0 ≤ h.bit ∧ h.bit ≤ 63 := by
  obtain ⟨h1, h2⟩ := hint_cases e
  refine ⟨h1, ?_⟩
  rcases h2 with ⟨k, hb⟩ | k | ⟨k, b1, b2⟩
  · rw [hint1 h1 k, hb, Bool.true_and, decide_eq_true_eq] at e
    exact ⟨hb, by omega, by omega⟩
  · rw [hint2 h1 k, Bool.and_eq_true, decide_eq_true_eq, decide_eq_true_eq] at e
    exact ⟨by rw [List.eq_nil_of_length_eq_zero e.1]; exact linOk_nil _ _, by omega, by omega⟩
  · rw [hint3 h1 k, Bool.and_eq_true, decide_eq_true_eq, decide_eq_true_eq] at e
    exact ⟨by rw [List.eq_nil_of_length_eq_zero e.1]; exact linOk_nil _ _, b1, b2⟩
theorem row_more {p v : Int} {r : Rw} (e : rowOk p v r = true) : linOk p v r.a.l = true ∧ linOk p v r.b.l = true ∧ linOk p v r.c.l = true := by
  unfold rowOk at e
  rw [Bool.and_eq_true, Bool.and_eq_true] at e
  exact ⟨e.1.1, e.1.2, e.2⟩

set_option maxRecDepth 10000 in
set_option maxHeartbeats 8000000 in
theorem bounded_any (p pub vars : Int) (ra : Option Addr) (R : List Rw) (rc : Nat) (sec : Int) (ha : Option Addr) (H : List Hn) (hc : Nat) (w : World)
    (hR : RowsP w ra rc R) (hH : HintsP w ha hc H) (hC : cirOk p pub vars R sec H = true) :
    Calls Try.prog 33 #[.agg #[.int .u64 p, .int .i64 pub, .int .i64 vars, .slice ra R.length rc, .int .i64 sec, .slice ha H.length hc]] w fun e w' => e = .returned (.bool true) ∧ Below w.heap.size w w' := by
  obtain ⟨hT, hs0, hv, hok⟩ := cir_bd hC
  obtain ⟨hvp, hp0, hp1, hp2, hRl⟩ := tbl_bd hT
  have hrow := (of_decide_eq_true hT).2.2
  have hHl : H.length ≤ 65536 := by omega
  have h3 : (vars != 1 + pub + sec + (H.length : Int)) = false := by simp [hv]
  have hn : 1 + pub + sec ≤ 65536 := by omega
  clear hC hT
  replace hv := hide hv
  replace hok := hide hok
  replace hrow := hide hrow
  go_enter Try.func33, Try.ntmps33
  have g0 : Blk (w.alloc (.cells #[.int .u64 p, .int .i64 pub, .int .i64 vars, .slice ra R.length rc, .int .i64 sec, .slice ha H.length hc] 37)) w.heap.size #[.int .u64 p, .int .i64 pub, .int .i64 vars, .slice ra R.length rc, .int .i64 sec, .slice ha H.length hc] 37 := Blk.newAt rfl
  have hB : Below w.heap.size w (w.alloc (.cells #[.int .u64 p, .int .i64 pub, .int .i64 vars, .slice ra R.length rc, .int .i64 sec, .slice ha H.length hc] 37)) := (Below.refl _ _).alloc (Nat.le_refl _) _
  go_wp2_with fail
  generalize w.alloc (.cells #[.int .u64 p, .int .i64 pub, .int .i64 vars, .slice ra R.length rc, .int .i64 sec, .slice ha H.length hc] 37) = w1 at *
  go_loopw [38] (fun t38 wr => ∃ k : Nat, k ≤ H.length ∧ t38 = .int .i64 k ∧ Below w1.heap.size w1 wr) (fun t38 _ => H.length - (intOf t38).toNat)
  case atStart => exact ⟨0, Nat.zero_le _, rfl, Below.refl _ _⟩
  case round =>
    obtain ⟨k, hk, rfl, hb⟩ := hrel
    have gr := g0.mono hb
    have hBr := below2 hB hb
    by_cases hlt : k < H.length
    · have hlt' : (k : Int) < H.length := by omega
      have hH' := hH.mono hBr
      obtain ⟨b, off, e, _, hcc⟩ := hH'.s (by omega)
      obtain ⟨hc0, hc1, hc2, hc3⟩ := hcc k hlt
      obtain ⟨hx, hy, _, _⟩ := hH'.ok _ (getD_mem' hlt default)
      obtain ⟨l1, l2, l3, l4⟩ := hint_more (hok.out k hlt)
      clear hcc hH' hH hR hok hrow
      generalize H.getD k default = r at *
      obtain ⟨kk, x, y, bit⟩ := r
      simp only at hc0 hc1 hc2 hc3 hx hy l1 l2 l3 l4
      have c1 := fun W h => rRight_any p (1 + pub + sec + k) x W h
      have c2 := fun W h => rRight_any p (1 + pub + sec + k) y W h
      rw [l1] at c1
      rw [l2] at c2
      replace l1 := hide l1
      replace l2 := hide l2
      subst e
      have k0 := gr.cell (j := 0) (v := .int .u64 p) rfl
      have hgl := gr.lt
      go_wp2_with fail
      refine name_calls fun W2 hW2 => ?_
      have g2 : Blk W2 wr.heap.size #[.int .i64 kk, .slice x.ad x.l.length x.cap, .slice y.ad y.l.length y.cap, .int .i64 bit] 108 := by rw [hW2]; exact Blk.newAt rfl
      have hb2 : Below wr.heap.size wr W2 := by rw [hW2]; exact (Below.refl _ _).alloc (Nat.le_refl _) _
      clear hW2 k0
      refine (c1 W2 (hx.mono hb2)).mono ?_
      rintro e w3 ⟨rfl, hb3⟩
      have hb23 := below2 hb2 hb3
      replace g2 := g2.mono hb3
      replace gr := gr.mono hb23
      have k0 := gr.cell (j := 0) (v := .int .u64 p) rfl
      have t2 := g2.cell (j := 2) (v := .slice y.ad y.l.length y.cap) rfl
      clear c1 hb3 hb2 hc0 hc1 hc2 hc3
      go_wp2_with fail
      refine (c2 w3 (hy.mono hb23)).mono ?_
      rintro e w4 ⟨rfl, hb4⟩
      replace g2 := g2.mono hb4
      have t3 := g2.cell (j := 3) (v := .int .i64 bit) rfl
      replace hb := below2 hb (below2 hb23 hb4)
      clear c2 hx hy k0 t2 gr hb23 hb4
      go_wp2
      go_roundw
      case rel => exact ⟨k + 1, by omega, by go_num, hb⟩
      case measure => simp [intOf]; omega
    · obtain rfl : k = H.length := by omega
      clear hok hH
      obtain ⟨wA, hwA⟩ : ∃ wA, wA = wr := ⟨_, rfl⟩
      subst hwA
      have k0 := gr.cell (j := 0) (v := .int .u64 p) rfl; have k1 := gr.cell (j := 1) (v := .int .i64 pub) rfl; have k2 := gr.cell (j := 2) (v := .int .i64 vars) rfl; have k3 := gr.cell (j := 3) (v := .slice ra R.length rc) rfl; have k4 := gr.cell (j := 4) (v := .int .i64 sec) rfl; have k5 := gr.cell (j := 5) (v := .slice ha H.length hc) rfl
      go_wp2_with fail
      clear k0 k1 k2 k3 k4 k5
      go_loopw [80] (fun t80 wr => ∃ k : Nat, k ≤ R.length ∧ t80 = .int .i64 k ∧ Below wA.heap.size wA wr) (fun t80 _ => R.length - (intOf t80).toNat)
      case atStart => exact ⟨0, Nat.zero_le _, rfl, Below.refl _ _⟩
      case round =>
        obtain ⟨k, hk, rfl, hbs⟩ := hrel
        have gs := gr.mono hbs
        have hBs := below2 hBr hbs
        by_cases hlt : k < R.length
        · have hlt' : (k : Int) < R.length := by omega
          have hR' := hR.mono hBs
          obtain ⟨b, off, e, _, hcc⟩ := hR'.s (by omega)
          obtain ⟨hc0, hc1, hc2⟩ := hcc k hlt
          obtain ⟨hx, hy, hz⟩ := hR'.ok _ (getD_mem' hlt default)
          obtain ⟨l1, l2, l3⟩ := row_more (hrow.out k hlt)
          clear hcc hR' hR hrow
          generalize R.getD k default = r at *
          obtain ⟨x, y, z⟩ := r
          simp only at hc0 hc1 hc2 hx hy hz l1 l2 l3
          have c1 := fun W h => rRight_any p vars x W h
          have c2 := fun W h => rRight_any p vars y W h
          have c3 := fun W h => rRight_any p vars z W h
          rw [l1] at c1
          rw [l2] at c2
          rw [l3] at c3
          replace l1 := hide l1
          replace l2 := hide l2
          replace l3 := hide l3
          subst e
          have k0 := gs.cell (j := 0) (v := .int .u64 p) rfl
          have k2 := gs.cell (j := 2) (v := .int .i64 vars) rfl
          have hgl := gs.lt
          go_wp2_with fail
          refine name_calls fun W2 hW2 => ?_
          have g2 : Blk W2 wr.heap.size #[.slice x.ad x.l.length x.cap, .slice y.ad y.l.length y.cap, .slice z.ad z.l.length z.cap] 106 := by rw [hW2]; exact Blk.newAt rfl
          have hb2 : Below wr.heap.size wr W2 := by rw [hW2]; exact (Below.refl _ _).alloc (Nat.le_refl _) _
          clear hW2 k0 k2
          refine (c1 W2 (hx.mono hb2)).mono ?_
          rintro e w3 ⟨rfl, hb3⟩
          have hb23 := below2 hb2 hb3
          replace g2 := g2.mono hb3
          have gs3 := gs.mono hb23
          have k0 := gs3.cell (j := 0) (v := .int .u64 p) rfl
          have k2 := gs3.cell (j := 2) (v := .int .i64 vars) rfl
          have t1 := g2.cell (j := 1) (v := .slice y.ad y.l.length y.cap) rfl
          clear c1 hb3 hb2 hc0 hc1 hc2
          go_wp2_with fail
          refine (c2 w3 (hy.mono hb23)).mono ?_
          rintro e w4 ⟨rfl, hb4⟩
          have hb24 := below2 hb23 hb4
          replace g2 := g2.mono hb4
          have gs4 := gs.mono hb24
          clear k0 k2 t1 gs3
          have k0 := gs4.cell (j := 0) (v := .int .u64 p) rfl
          have k2 := gs4.cell (j := 2) (v := .int .i64 vars) rfl
          have t2 := g2.cell (j := 2) (v := .slice z.ad z.l.length z.cap) rfl
          clear c2 hb4
          go_wp2_with fail
          refine (c3 w4 (hz.mono hb24)).mono ?_
          rintro e w5 ⟨rfl, hb5⟩
          replace hbs := below2 hbs (below2 hb24 hb5)
          clear c3 hx hy hz k0 k2 t2 gs4 hb24 hb5 hb23
          go_wp2
          go_roundw
          case rel => exact ⟨k + 1, by omega, by go_num, hbs⟩
          case measure => simp [intOf]; omega
        · obtain rfl : k = R.length := by omega
          go_wp2
          go_ret
          exact ⟨rfl, hBs⟩

set_option maxRecDepth 10000 in
set_option maxHeartbeats 8000000 in
theorem rSat20_any (p pub vars : Int) (ra : Option Addr) (R : List Rw) (rc : Nat) (wa : Option Addr) (wc : Nat) (W0 : List Int) (w : World)
    (hR : RowsP w ra rc R) (hW : Sl w .u64 wa W0) (hA : AllW W0) (hT : tblOk p pub vars R = true) (hl : (W0.length : Int) = vars) :
    Calls Try.prog 36 #[.agg #[.int .u64 p, .int .i64 pub, .int .i64 vars, .slice ra R.length rc], .slice wa W0.length wc] w fun e w' => e = .returned (.bool (rowsSat p W0 R)) ∧ Below w.heap.size w w' := by
  obtain ⟨_, hp0, hp1, hp2, hl16⟩ := tbl_bd hT
  have hrow := hide (of_decide_eq_true hT).2.2
  replace hl := hide hl
  clear hT
  go_enter Try.func36, Try.ntmps36
  have g0 : Blk (w.alloc (.cells #[.int .u64 p, .int .i64 pub, .int .i64 vars, .slice ra R.length rc] 34)) w.heap.size #[.int .u64 p, .int .i64 pub, .int .i64 vars, .slice ra R.length rc] 34 := Blk.newAt rfl
  have hB : Below w.heap.size w (w.alloc (.cells #[.int .u64 p, .int .i64 pub, .int .i64 vars, .slice ra R.length rc] 34)) := (Below.refl _ _).alloc (Nat.le_refl _) _
  go_wp2_with fail
  generalize w.alloc (.cells #[.int .u64 p, .int .i64 pub, .int .i64 vars, .slice ra R.length rc] 34) = w1 at *
  go_loopw [5] (fun t5 wr => ∃ k : Nat, k ≤ R.length ∧ t5 = .int .i64 k ∧ Below w1.heap.size w1 wr ∧ Hid (∀ j, j < k → rowSat p W0 (R.getD j default) = true)) (fun t5 _ => R.length - (intOf t5).toNat)
  case atStart => exact ⟨0, Nat.zero_le _, rfl, Below.refl _ _, hide fun j hj => by omega⟩
  case round =>
    obtain ⟨k, hk, rfl, hb, hU⟩ := hrel
    have gr := g0.mono hb
    have hBr := below2 hB hb
    have k3 := gr.cell (j := 3) (v := .slice ra R.length rc) rfl
    by_cases hlt : k < R.length
    · have hlt' : (k : Int) < R.length := by omega
      have hR' := hR.mono hBr
      obtain ⟨b, off, e, _, hcc⟩ := hR'.s (by omega)
      obtain ⟨hc0, hc1, hc2⟩ := hcc k hlt
      obtain ⟨hx, hy, hz⟩ := hR'.ok _ (getD_mem' hlt default)
      obtain ⟨l1, l2, l3⟩ := row_more (hrow.out k hlt)
      have hst := hide (fun h => rs_stop (p := p) (W := W0) hlt h)
      have hnx := hide (fun h : rowSat p W0 (R.getD k default) = true => fun j (hj : j < k + 1) => (by
        rcases Nat.lt_or_ge j k with h2 | h2
        · exact hU.out j h2
        · have : j = k := by omega
          subst this; exact h : rowSat p W0 (R.getD j default) = true))
      clear hcc hR' hU hR hrow
      generalize R.getD k default = r at *
      obtain ⟨x, y, z⟩ := r
      simp only at hc0 hc1 hc2 hx hy hz l1 l2 l3
      have hin : ∀ s : Lc, linOk p vars s.l = true → ∀ i, i < s.l.length → 0 ≤ (s.l.getD i (0, 0)).1 ∧ (s.l.getD i (0, 0)).1 < (W0.length : Int) := fun s h i hi => by
        have := (of_decide_eq_true h i hi).1
        rw [hl.out]; exact this
      have i1 := hide (hin x l1)
      have i2 := hide (hin y l2)
      have i3 := hide (hin z l3)
      clear l1 l2 l3 hin
      subst e
      have hWr := hW.mono hBr
      have hgl := gr.lt
      go_wp2_with fail
      refine name_world fun W2 hW2 => ?_
      have g2 : Blk W2 wr.heap.size #[.slice x.ad x.l.length x.cap, .slice y.ad y.l.length y.cap, .slice z.ad z.l.length z.cap] 106 := by rw [hW2]; exact Blk.newAt rfl
      have hb2 : Below wr.heap.size wr W2 := by rw [hW2]; exact (Below.refl _ _).alloc (Nat.le_refl _) _
      clear hW2 hc0 hc1 hc2
      have gr2 := gr.mono hb2
      have r0 := cell_later' (g2.cell (j := 0) (v := .slice x.ad x.l.length x.cap) rfl)
      have r1 := cell_later' (g2.cell (j := 1) (v := .slice y.ad y.l.length y.cap) rfl)
      have r2 := cell_later' (g2.cell (j := 2) (v := .slice z.ad z.l.length z.cap) rfl)
      have k0 := cell_later' (gr2.cell (j := 0) (v := .int .u64 p) rfl)
      have cx := fun P => rValue20_any p x wa wc W0 (later W2 P) ((hx.mono hb2).mono (below_later _ _)) ((hWr.mono hb2).mono (below_later _ _)) hA i1.out
      have cy := fun P => rValue20_any p y wa wc W0 (later W2 P) ((hy.mono hb2).mono (below_later _ _)) ((hWr.mono hb2).mono (below_later _ _)) hA i2.out
      have cz := fun P => rValue20_any p z wa wc W0 (later W2 P) ((hz.mono hb2).mono (below_later _ _)) ((hWr.mono hb2).mono (below_later _ _)) hA i3.out
      have hbx := lval_bd p W0 x.l
      have hby := lval_bd p W0 y.l
      have hbz := lval_bd p W0 z.l
      have hrs : rowSat p W0 ⟨x, y, z⟩ = (fmul p (lval p W0 x.l) (lval p W0 y.l) == lval p W0 z.l) := rfl
      generalize rowSat p W0 ⟨x, y, z⟩ = q at *
      generalize lval p W0 x.l = vx at *
      generalize lval p W0 y.l = vy at *
      generalize lval p W0 z.l = vz at *
      have cm := fun P => rMul_any p vx vy (later W2 P) (by omega) (by omega) (by omega) (by omega)
      generalize fmul p vx vy = vm at *
      cases q with
      | false =>
        have hF := hide (hst.out rfl)
        have hne : (vm != vz) = true := by rw [bne, ← hrs]; rfl
        replace hrs := hide hrs
        clear hst hnx hx hy hz hW hWr hA k3
        go_wp2_with fail
        refine wp_region_later Try.mixed (by kernel_rfl) ?_
        repeat (first | go_big_quiet_step (first | (go_at_call_of 37 (Lc.l x); exact Calls.later_of (cx _)) | (go_at_call_of 37 (Lc.l y); exact Calls.later_of (cy _)) | (go_at_call_of 37 (Lc.l z); exact Calls.later_of (cz _)) | (go_at_call 78; exact Calls.later_of (cm _))) | quiet_step (first | (go_at_call_of 37 (Lc.l x); exact Calls.later_of (cx _)) | (go_at_call_of 37 (Lc.l y); exact Calls.later_of (cy _)) | (go_at_call_of 37 (Lc.l z); exact Calls.later_of (cz _)) | (go_at_call 78; exact Calls.later_of (cm _))))
        refine wpQuiet_nil ?_
        intro w3 hb3
        replace hb3 := below_of_later hb3
        go_wp2
        go_ret
        exact ⟨ret_bool' hF.out.symm, below2 hBr (below2 hb2 hb3)⟩
      | true =>
        have hN := hide (hnx.out rfl)
        have hne : (vm != vz) = false := by rw [bne, ← hrs]; rfl
        replace hrs := hide hrs
        clear hst hnx hx hy hz hW hWr hA k3
        go_wp2_with fail
        refine wp_region_later Try.mixed (by kernel_rfl) ?_
        repeat (first | go_big_quiet_step (first | (go_at_call_of 37 (Lc.l x); exact Calls.later_of (cx _)) | (go_at_call_of 37 (Lc.l y); exact Calls.later_of (cy _)) | (go_at_call_of 37 (Lc.l z); exact Calls.later_of (cz _)) | (go_at_call 78; exact Calls.later_of (cm _))) | quiet_step (first | (go_at_call_of 37 (Lc.l x); exact Calls.later_of (cx _)) | (go_at_call_of 37 (Lc.l y); exact Calls.later_of (cy _)) | (go_at_call_of 37 (Lc.l z); exact Calls.later_of (cz _)) | (go_at_call 78; exact Calls.later_of (cm _))))
        refine wpQuiet_nil ?_
        intro w3 hb3
        replace hb3 := below_of_later hb3
        replace hb := below2 hb (below2 hb2 hb3)
        clear cx cy cz cm r0 r1 r2 k0 hb3
        go_wp2
        go_roundw
        case rel => exact ⟨k + 1, by omega, by go_num, hb, hN⟩
        case measure => simp [intOf]; omega
    · obtain rfl : k = R.length := by omega
      have hF := hide (rs_all hU.out)
      go_wp2
      go_ret
      exact ⟨ret_bool' hF.out.symm, hBr⟩

end Go.Proofs.Ytlgjnidphldiiaa

/- Gadgets: run of a script without operations. -/
namespace Go.Proofs.Ytlgjnidphldiiaa
open Go.RowKit

/-- The combinations that a script begins with. -/
def inL (k : Nat) : List Lin := (List.range k).map fun (i : Nat) => [(1 + (i : Int), 1)]
def startL (p : Int) (k : Nat) : List Lin := [[], keepT (0, fred p 1), keepT (0, fred p 2)] ++ inL k
theorem startL_succ (p : Int) (k : Nat) : startL p (k + 1) = startL p k ++ [[(1 + (k : Int), 1)]] := by
  unfold startL inL
  rw [List.range_succ, List.map_append, List.append_assoc]
  rfl
/-- The list of run's results lies in the block q. -/
structure RunB (w wr : World) (q : Nat) (VL : List Lin) : Prop where
  ls : ∃ v Ls, Blk wr q #[v] 55 ∧ OwnG lcL wr w.heap.size 44 v Ls ∧ (∀ s ∈ Ls, LinT wr s) ∧ Hid (Ls.map Lc.l = VL)
  q : w.heap.size ≤ q
  below : Below w.heap.size w wr

set_option maxRecDepth 10000 in
set_option maxHeartbeats 8000000 in
theorem run0_any (p pub sec : Int) (la : Option Addr) (lc : Nat) (w : World) (hv : vld p = true) (hb : 0 ≤ pub ∧ pub ≤ 4 ∧ 0 ≤ sec ∧ sec ≤ 4) :
    Calls Try.prog 40 #[.agg #[.int .u64 p, .int .u8 pub, .int .u8 sec, .slice la 0 lc]] w fun e w' => ∃ b v Ls, e = .returned (.tuple #[.pointer (some ⟨b, 0, none⟩), v]) ∧ Bld w' w.heap.size b (newS p pub sec) ∧ OwnG lcL w' w.heap.size 44 v Ls ∧ (∀ s ∈ Ls, LinT w' s) ∧ Hid (Ls.map Lc.l = startL p (pub + sec).toNat) ∧ Below w.heap.size w w' := by
  obtain ⟨b0, b1, b2, b3⟩ := hb
  have cN := fun W => New20_ok p pub sec W hv ⟨b0, by omega, b2, by omega⟩
  have cC := fun (n : Int) W h => Constant20_any p n W h
  have cI := fun b cs T (i : Int) W g h0 h2 h5 hi => Input20_any b cs T p pub sec i W g h0 h2 h5 hv ⟨b0, b2, by omega⟩ hi
  obtain ⟨N, hNe⟩ : ∃ N : Nat, (N : Int) = pub + sec := ⟨(pub + sec).toNat, by omega⟩
  have hNt : (pub + sec).toNat = N := by omega
  rw [hNt]
  replace hNe := hide hNe
  clear hNt
  clear hv
  go_enter Try.func40, Try.ntmps40
  go_wp2_with fail
  refine name_calls fun W hN => ?_
  have g0 : Blk W w.heap.size #[.int .u64 p, .int .u8 pub, .int .u8 sec, .slice la 0 lc] 66 := by rw [hN]; exact Blk.newAt rfl
  have hB : Below w.heap.size w W := by rw [hN]; exact (Below.refl _ _).alloc (Nat.le_refl _) _
  clear hN
  refine (cN W).mono ?_
  rintro e w2 ⟨b, rfl, hB2, hb2⟩
  have hzW := hB.size
  replace hB2 := hB2.low hzW
  replace hB := below2 hB hb2
  have hz2 := hB.size
  replace g0 := g0.mono hb2
  clear cN hb2
  have k0 := cell_later' (g0.cell (j := 0) (v := .int .u64 p) rfl)
  go_wp2_with fail
  refine Rel.wp_region_mix 8 [] [(2, IsLn (keepT (0, fred p 1))), (5, IsLn (keepT (0, fred p 2))), (6, IsL3 w2.heap.size (keepT (0, fred p 1)) (keepT (0, fred p 2))), (7, IsBx w2.heap.size #[.slice none 0 0] 55)] Try.mixed (by kernel_rfl) (by kernel_rfl) ?_ ?_
  rotate_left
  simp only [List.take_succ_cons, List.take_zero, List.drop_succ_cons, List.drop_zero, List.map_cons, List.map_nil]
  repeat (first | (refine Rel.wpA_b (by rfl) ?_) | (refine Rel.wpA_step (by rfl) fun K hK => ?_; go_simp; first | (refine hK _ ?_; clear hK K) | (apply Exists.intro; refine ⟨fun _ => ?_, hK _ ?_⟩; (first | fail); clear hK K)))
  refine Rel.wpA_nil ?_
  rotate_left
  · intro z hz v u u' h1 h2
    simp only [List.mem_cons, List.not_mem_nil, or_false] at hz
    rcases hz with rfl | rfl | rfl | rfl
    · exact IsLn.mono h1 h2
    · exact IsLn.mono h1 h2
    · exact IsL3.mono h1 h2
    · exact IsBx.mono h1 h2
  refine Rel.wpB_step _ rfl rfl (fun p' hc => ?_) (fun v2 => ?_)
  · refine rU_of' (fr := false) (r := .ok (.enter 24 #[.int .u64 p, .int .u64 1]) (later w2 p')) (by kernel_rfl) (by kernel_rfl) ?_
    exact rU_ln (cC 1 _ (by decide))
  refine Rel.wpB_step _ rfl rfl (fun p' hc => ?_) (fun v5 => ?_)
  · refine rU_of' (fr := false) (r := .ok (.enter 24 #[.int .u64 p, .int .u64 2]) (later w2 p')) (by kernel_rfl) (by kernel_rfl) ?_
    exact rU_ln (cC 2 _ (by decide))
  refine Rel.wpB_step _ rfl rfl (fun p' hc => ?_) (fun v6 => ?_)
  · have h2 : IsLn (keepT (0, fred p 1)) v2 (later w2 p') := hc _ (List.Mem.head _) (by kernel_rfl)
    have h5 : IsLn (keepT (0, fred p 2)) v5 (later w2 p') := hc _ (List.Mem.tail _ (List.Mem.head _)) (by kernel_rfl)
    obtain ⟨s1, rfl, e1, l1⟩ := h2
    obtain ⟨s2, rfl, e2, l2⟩ := h5
    refine rU_of' (fr := false) (r := .ok (.value (.slice (some ⟨(later w2 p').heap.size, 0, none⟩) 3 3)) ((later w2 p').alloc (.cells #[.slice none 0 0, lcV s1, lcV s2] 44))) (by kernel_rfl) (by kernel_rfl) ?_
    exact rU_l3 w2 p' s1 s2 _ _ e1 l1 e2 l2
  refine Rel.wpB_step _ rfl rfl (fun p' hc => ?_) (fun v7 => ?_)
  · refine rU_of' (fr := false) (r := .ok (.value (.pointer (some ⟨(later w2 p').heap.size, 0, none⟩))) ((later w2 p').alloc (.cells #[.slice none 0 0] 55))) (by kernel_rfl) (by kernel_rfl) ?_
    exact rU_bx w2 p' _ _
  refine Rel.wpB_nil ?_
  intro p' hctx hfr
  simp only [List.nil_append, List.cons_append, List.mem_cons, List.not_mem_nil, or_false, forall_eq_or_imp, forall_eq] at hctx
  obtain ⟨_, _, ⟨s1, s2, g3, rfl, hg3, gL, e1, l1, e2, l2⟩, ⟨q, rfl, hq, gq⟩⟩ := hctx
  have hbl := below_later w2 p'
  clear hfr k0
  generalize later w2 p' = w3 at *
  replace g0 := g0.mono hbl
  replace hB2 := hB2.mono hbl
  replace hB := below2 hB hbl
  have hq0 : w.heap.size ≤ q := by omega
  have fq := gq.free
  have cq := gq.cell (j := 0) (v := .slice none 0 0) rfl
  obtain ⟨w4, hN⟩ : ∃ w4, w4 = w3.setCell ⟨q, 0, none⟩ (.slice (some ⟨g3, 0, none⟩) 3 3) := ⟨_, rfl⟩
  have kx : KX XLn w.heap.size w3 w4 := by rw [hN]; exact KX.set gq xln2 hq0
  have gq4 : Blk w4 q #[.slice (some ⟨g3, 0, none⟩) 3 3] 55 := by rw [hN]; exact gq.set 0 (.slice (some ⟨g3, 0, none⟩) 3 3)
  have gL4 : Blk w4 g3 #[.slice none 0 0, lcV s1, lcV s2] 44 := by rw [hN]; exact gL.other (fun e => by subst e; exact absurd (blk_type gL gq) (by decide)) _ _
  replace g0 := kx.typ _ _ _ g0 xlnS
  replace hB2 := kx.bld xlnR xlnH xlnB xlnT hB2
  replace hB := hB.trans kx.below
  replace l1 := kx.lin xlnT l1
  replace l2 := kx.lin xlnT l2
  have hL3 : RunB w w4 q (startL p 0) := ⟨⟨_, [⟨none, 0, []⟩, s1, s2], gq4, OwnG.of_blk (xs := [⟨none, 0, []⟩, s1, s2]) (cap := 3) (by omega) gL4 (by simp) (by decide) rfl rfl, by
    intro s hs
    simp only [List.mem_cons, List.not_mem_nil, or_false] at hs
    rcases hs with rfl | rfl | rfl
    · exact LinT.nil _
    · exact l1
    · exact l2, hide (by show [[], s1.l, s2.l] = _; rw [e1.out, e2.out]; rfl)⟩, hq0, hB⟩
  clear kx gq4 gL4 l1 l2 hq hg3 e1 e2 gL gq
  have k1 := g0.cell (j := 1) (v := .int .u8 pub) rfl
  have k2 := g0.cell (j := 2) (v := .int .u8 sec) rfl
  rw [hN] at k1 k2
  replace hN := hide hN
  go_wp2_with fail
  rw [← hN.out]
  clear fq cq k1 k2 hN hbl hB hq0 cC
  go_loopw [46] (fun t46 wr => ∃ k : Nat, k ≤ N ∧ t46 = .int .i64 k ∧ RunB w wr q (startL p k) ∧ Bld wr w.heap.size b (newS p pub sec) ∧ Blk wr w.heap.size #[.int .u64 p, .int .u8 pub, .int .u8 sec, .slice la 0 lc] 66) (fun t46 _ => N - (intOf t46).toNat)
  case atStart => exact ⟨0, Nat.zero_le _, rfl, hL3, hB2, g0⟩
  case round =>
    clear hL3 hB2 g0
    obtain ⟨k, hk, rfl, hR, hB2, g0⟩ := hrel
    obtain ⟨⟨v, Ls, gq, ow, hls, ev⟩, hq0, hB⟩ := hR
    have kv := cell_later' (gq.cell (j := 0) (v := v) rfl)
    have hNe2 := hNe.out
    by_cases hlt : k < N
    · have hlt' : (k : Int) < pub + sec := by omega
      obtain ⟨cs, gb, h0, h2, h5⟩ := hB2.cells
      have cc := fun P => cI b cs _ k (later wr P) (gb.mono (below_later _ _)) h0 h2 h5 (wfI ⟨by omega, by omega⟩)
      rw [if_pos ⟨by omega, by omega⟩] at cc
      clear hNe2
      go_wp2_with fail
      refine Rel.wp_region_mix 5 [] [(3, IsLn [(1 + (k : Int), 1)]), (4, IsL1 wr.heap.size [(1 + (k : Int), 1)])] Try.mixed (by kernel_rfl) (by kernel_rfl) ?_ ?_
      rotate_left
      simp only [List.take_succ_cons, List.take_zero, List.drop_succ_cons, List.drop_zero, List.map_cons, List.map_nil]
      repeat (first | (refine Rel.wpA_b (by rfl) ?_) | (refine Rel.wpA_step (by rfl) fun K hK => ?_; go_simp; first | (refine hK _ ?_; clear hK K) | (apply Exists.intro; refine ⟨fun _ => ?_, hK _ ?_⟩; (first | fail); clear hK K)))
      refine Rel.wpA_nil ?_
      rotate_left
      · intro z hz v u u' h1 h2
        simp only [List.mem_cons, List.not_mem_nil, or_false] at hz
        rcases hz with rfl | rfl
        · exact IsLn.mono h1 h2
        · exact IsL1.mono h1 h2
      refine Rel.wpB_step _ rfl rfl (fun p' hc => ?_) (fun v3 => ?_)
      · refine rU_of' (fr := false) (r := .ok (.enter 20 #[.pointer (some ⟨b, 0, none⟩), .int .i64 k]) (later wr p')) (by kernel_rfl) (by kernel_rfl) ?_
        exact rU_ln (cc p')
      refine Rel.wpB_step _ rfl rfl (fun p' hc => ?_) (fun v4 => ?_)
      · have h3 : IsLn [(1 + (k : Int), 1)] v3 (later wr p') := hc _ (List.Mem.head _) (by kernel_rfl)
        obtain ⟨s1, rfl, e1, l1⟩ := h3
        refine rU_of' (fr := false) (r := .ok (.value (.slice (some ⟨(later wr p').heap.size, 0, none⟩) 1 1)) ((later wr p').alloc (.cells #[lcV s1] 44))) (by kernel_rfl) (by kernel_rfl) ?_
        exact rU_l1 wr p' s1 _ e1 l1
      refine Rel.wpB_nil ?_
      intro p' hctx hfr
      simp only [List.nil_append, List.cons_append, List.mem_cons, List.not_mem_nil, or_false, forall_eq_or_imp, forall_eq] at hctx
      obtain ⟨_, ⟨s, g1, rfl, hg1, gL, e1, l1⟩⟩ := hctx
      have hbl := below_later wr p'
      clear hfr kv cc h0 h2 h5 gb
      generalize later wr p' = w3 at *
      replace g0 := g0.mono hbl
      replace hB2 := hB2.mono hbl
      replace hB := below2 hB hbl
      replace gq := gq.mono hbl
      replace ow := ow.mono hbl
      replace hls := fun s h => (hls s h).mono hbl
      have hll : Ls.length ≤ 20 := by
        have := congrArg List.length ev.out
        simp [startL, inL] at this
        omega
      have hbz := hB.size
      go_wp2_with (at_builtin; refine wpList_appG _ lcL Ls [s] rfl _ _ 55 rfl w.heap.size 44 (.slice none 0 0) 24 Try.underlying55 Try.infoLc rfl (by decide) _ 1 1 (some ⟨g1, 0, none⟩) rfl rfl rfl ow (SlG.one gL rfl) (by simp; omega) hbz ?_; intro v' w' own' hg'; refine Hold.mk ?_)
      refine Hold.go ?_
      obtain ⟨va, vc, ve, _⟩ := own'.sl
      rw [show (Ls ++ [s]).length = Ls.length + 1 by simp] at ve
      subst ve
      have kx : KX XLn w.heap.size w3 w' := KX.grew ow hg' xln1 hbz
      have gq' := hg'.blk gq (ow.neq gq (by decide))
      have fq := gq'.free
      have cq := gq'.cell (j := 0) (v := v) rfl
      replace g0 := kx.typ _ _ _ g0 xlnS
      replace hB2 := kx.bld xlnR xlnH xlnB xlnT hB2
      replace hB := hB.trans kx.below
      have hls' : ∀ s' ∈ Ls ++ [s], LinT w' s' := fun s' hs => by
        rcases List.mem_append.1 hs with h1 | h1
        · exact kx.lin xlnT (hls s' h1)
        · rw [List.mem_singleton] at h1; subst h1; exact kx.lin xlnT l1
      have kx2 : KX XLn w.heap.size w' (w'.setCell ⟨q, 0, none⟩ (.slice va (Ls.length + 1) vc)) := KX.set gq' xln2 hq0
      have hR2 : RunB w (w'.setCell ⟨q, 0, none⟩ (.slice va (Ls.length + 1) vc)) q (startL p (k + 1)) := ⟨⟨_, Ls ++ [s], gq'.set 0 (.slice va (Ls.length + 1) vc), own'.other (own'.neq gq' (by decide)) _, fun s' hs => kx2.lin xlnT (hls' s' hs), hide (by rw [List.map_append, ev.out, startL_succ, ← e1.out]; rfl)⟩, hq0, hB.trans kx2.below⟩
      replace g0 := kx2.typ _ _ _ g0 xlnS
      replace hB2 := kx2.bld xlnR xlnH xlnB xlnT hB2
      clear ow hls hg' kx kx2 gq own' hls' l1 e1 ev gL hll
      go_wp2
      go_roundw
      case rel => exact ⟨k + 1, by omega, by go_num, hR2, hB2, g0⟩
      case measure => simp [intOf]; omega
    · obtain rfl : k = N := by omega
      have k3 := g0.cell (j := 3) (v := .slice la 0 lc) rfl
      have hge : pub + sec ≤ (k : Int) := by omega
      clear hNe2
      go_wp2_with fail
      go_loopw [59] (fun t59 ws => t59 = .int .i64 0 ∧ ws = wr) (fun _ _ => 0)
      case atStart => exact ⟨rfl, rfl⟩
      case round =>
        obtain ⟨rfl, rfl⟩ := hrel
        go_wp2_with fail
        refine wp_region_later Try.mixed (by kernel_rfl) ?_
        repeat (first | go_big_quiet_step (first | fail) | quiet_step (first | fail))
        refine wpQuiet_nil ?_
        intro w5 hb5
        replace hb5 := below_of_later hb5
        go_wp2
        exact bodyPost_ret (v := .tuple #[.pointer (some ⟨b, 0, none⟩), v]) (by simp [results, Try.results40, go_sem]) rfl ⟨b, v, Ls, rfl, hB2.mono hb5, ow.mono hb5, fun s h => (hls s h).mono hb5, ev, below2 hB hb5⟩
end Go.Proofs.Ytlgjnidphldiiaa
