/- Circuits: which assignments satisfy a table, of the program and of the reference. -/
import Derived.Test.YtlflkddgdbdebaaCircE
import Derived.Test.YtlflkddgdbdebaaCircY
namespace Go.Proofs.Ytlflkddgdbdebaa
open Go.RowKit

theorem asn_no {p vars : Int} {W : List Int} (h : ¬ ((W.length : Int) = vars ∧ W.getD 0 0 = 1)) : asnOk p vars W = false := by
  unfold asnOk
  exact decide_eq_false fun hh => h ⟨hh.1, hh.2.1⟩
theorem asn_stop {p vars : Int} {W : List Int} {k : Nat} (hk : k < W.length) (h : p ≤ W.getD k 0) : asnOk p vars W = false := by
  unfold asnOk
  exact decide_eq_false fun hh => by have := hh.2.2 k hk; omega
theorem asn_all {p vars : Int} {W : List Int} (h : (W.length : Int) = vars ∧ W.getD 0 0 = 1) (h2 : ∀ k, k < W.length → W.getD k 0 < p) : asnOk p vars W = true := by
  unfold asnOk
  exact decide_eq_true ⟨h.1, h.2, h2⟩

set_option maxHeartbeats 1600000 in
theorem tAsn_any (p pub vars : Int) (ra : Option Addr) (R : List Rw) (rc : Nat) (wa : Option Addr) (wc : Nat) (ws : List Int) (w : World) (hW : Sl w .u64 wa ws) (hA : AllW ws) (h0 : 0 < vars) (h1 : vars ≤ 65536) :
    Calls Try.prog 74 #[.agg #[.int .u64 p, .int .i64 pub, .int .i64 vars, .slice ra R.length rc], .slice wa ws.length wc] w fun e w' => e = .returned (.bool (asnOk p vars ws)) ∧ Below w.heap.size w w' := by
  by_cases hl : (ws.length : Int) = vars
  · have hl2 : ((ws.length : Int) != vars) = false := by simp [hl]
    have hl16 : ws.length ≤ 65536 := by omega
    obtain ⟨b, off, rfl, hbl, hc⟩ := hW.get (i := 0) (by omega)
    have hpos : 0 < ws.length := by omega
    simp only [Nat.add_zero] at hc
    obtain ⟨x, hx⟩ : ∃ x, x = ws.getD 0 0 := ⟨_, rfl⟩
    rw [← hx] at hc
    by_cases hx1 : x = 1
    · have hx2 : (x != 1) = false := by simp [hx1]
      have hz := hide (show (ws.length : Int) = vars ∧ ws.getD 0 0 = 1 from ⟨hl, by rw [← hx]; exact hx1⟩)
      replace hx := hide hx
      replace hx1 := hide hx1
      replace hl := hide hl
      go_enter Try.func74, Try.ntmps74
      go_wp2_with fail
      go_loopw [20] (fun t20 wr => ∃ k : Nat, k ≤ ws.length ∧ t20 = .int .i64 k ∧ Below w.heap.size w wr ∧ Blk wr w.heap.size #[.int .u64 p, .int .i64 pub, .int .i64 vars, .slice ra R.length rc] 25 ∧ Hid (∀ j, j < k → ws.getD j 0 < p)) (fun t20 _ => ws.length - (intOf t20).toNat)
      case atStart => exact ⟨0, Nat.zero_le _, rfl, (Below.refl _ _).alloc (Nat.le_refl _) _, Blk.newAt rfl, hide fun j hj => by omega⟩
      case round =>
        obtain ⟨k, hk, rfl, hb, gr, hU⟩ := hrel
        clear hc
        have k0 := gr.cell (j := 0) (v := .int .u64 p) rfl
        by_cases hlt : k < ws.length
        · have hlt' : (k : Int) < ws.length := by omega
          obtain ⟨b2, off2, e2, _, hd⟩ := (hW.mono hb).get hlt
          cases e2
          have hst := hide (fun h => asn_stop (p := p) (vars := vars) hlt h)
          have hnx := hide (fun h : ws.getD k 0 < p => fun j (hj : j < k + 1) => (by
            rcases Nat.lt_or_ge j k with h2 | h2
            · exact hU.out j h2
            · have : j = k := by omega
              subst this; exact h : ws.getD j 0 < p))
          have hxr := hA.get hlt
          generalize ws.getD k 0 = y at *
          by_cases hy : p ≤ y
          · have hF := hide (hst.out hy)
            clear hst hnx hU
            go_wp2
            go_ret
            exact ⟨ret_bool' hF.out.symm, hb⟩
          · have hN := hide (hnx.out (by omega))
            clear hst hnx hU
            go_wp2
            go_roundw
            case rel => exact ⟨k + 1, by omega, by go_num, hb, gr, hN⟩
            case measure => simp [intOf]; omega
        · obtain rfl : k = ws.length := by omega
          have hF := hide (asn_all hz.out hU.out)
          go_wp2
          go_ret
          exact ⟨ret_bool' hF.out.symm, hb⟩
    · have hx2 : (x != 1) = true := by simpa using hx1
      have hF := hide (asn_no (p := p) (vars := vars) (W := ws) fun h => hx1 (by rw [hx]; exact h.2))
      replace hx := hide hx
      replace hx1 := hide hx1
      replace hl := hide hl
      go_enter Try.func74, Try.ntmps74
      go_wp2_with fail
      go_ret
      exact ⟨ret_bool' hF.out.symm, (Below.refl _ _).alloc (Nat.le_refl _) _⟩
  · have hl2 : ((ws.length : Int) != vars) = true := by simpa using hl
    have hF := hide (asn_no (p := p) (vars := vars) (W := ws) fun h => hl h.1)
    replace hl := hide hl
    go_enter Try.func74, Try.ntmps74
    go_wp2_with fail
    go_ret
    exact ⟨ret_bool' hF.out.symm, (Below.refl _ _).alloc (Nat.le_refl _) _⟩

set_option maxHeartbeats 1600000 in
theorem rAsn_any (p pub vars : Int) (ra : Option Addr) (R : List Rw) (rc : Nat) (wa : Option Addr) (wc : Nat) (ws : List Int) (w : World) (hW : Sl w .u64 wa ws) (hA : AllW ws) (h0 : 0 < vars) (h1 : vars ≤ 65536) :
    Calls Try.prog 76 #[.agg #[.int .u64 p, .int .i64 pub, .int .i64 vars, .slice ra R.length rc], .slice wa ws.length wc] w fun e w' => e = .returned (.bool (asnOk p vars ws)) ∧ Below w.heap.size w w' := by
  by_cases hl : (ws.length : Int) = vars
  · have hl2 : ((ws.length : Int) != vars) = false := by simp [hl]
    have hl16 : ws.length ≤ 65536 := by omega
    obtain ⟨b, off, rfl, hbl, hc⟩ := hW.get (i := 0) (by omega)
    have hpos : 0 < ws.length := by omega
    have hne : ((ws.length : Int) == 0) = false := by
      have : ¬ (ws.length : Int) = 0 := by omega
      simpa using this
    simp only [Nat.add_zero] at hc
    obtain ⟨x, hx⟩ : ∃ x, x = ws.getD 0 0 := ⟨_, rfl⟩
    rw [← hx] at hc
    by_cases hx1 : x = 1
    · have hx2 : (x != 1) = false := by simp [hx1]
      have hz := hide (show (ws.length : Int) = vars ∧ ws.getD 0 0 = 1 from ⟨hl, by rw [← hx]; exact hx1⟩)
      replace hx := hide hx
      replace hx1 := hide hx1
      replace hl := hide hl
      go_enter Try.func76, Try.ntmps76
      go_wp2_with fail
      go_loopw [5] (fun t5 wr => ∃ k : Nat, k ≤ ws.length ∧ t5 = .int .i64 k ∧ Below w.heap.size w wr ∧ Blk wr w.heap.size #[.int .u64 p, .int .i64 pub, .int .i64 vars, .slice ra R.length rc] 25 ∧ Hid (∀ j, j < k → ws.getD j 0 < p)) (fun t5 _ => ws.length - (intOf t5).toNat)
      case atStart => exact ⟨0, Nat.zero_le _, rfl, (Below.refl _ _).alloc (Nat.le_refl _) _, Blk.newAt rfl, hide fun j hj => by omega⟩
      case round =>
        obtain ⟨k, hk, rfl, hb, gr, hU⟩ := hrel
        clear hc
        have k0 := cell_later' (gr.cell (j := 0) (v := .int .u64 p) rfl)
        by_cases hlt : k < ws.length
        · have hlt' : (k : Int) < ws.length := by omega
          obtain ⟨b2, off2, e2, _, hd⟩ := (hW.mono hb).get hlt
          cases e2
          have hst := hide (fun h => asn_stop (p := p) (vars := vars) hlt h)
          have hnx := hide (fun h : ws.getD k 0 < p => fun j (hj : j < k + 1) => (by
            rcases Nat.lt_or_ge j k with h2 | h2
            · exact hU.out j h2
            · have : j = k := by omega
              subst this; exact h : ws.getD j 0 < p))
          have hxr := hA.get hlt
          generalize ws.getD k 0 = y at *
          replace hd := cell_later' hd
          by_cases hy : p ≤ y
          · have hF := hide (hst.out hy)
            clear hst hnx hU
            go_wp2_with fail
            refine wp_region_later Try.mixed (by kernel_rfl) ?_
            repeat (first | go_big_quiet_step (first | fail) | quiet_step (first | fail))
            refine wpQuiet_nil ?_
            intro w3 hb3
            replace hb3 := below_of_later hb3
            go_wp2
            go_ret
            exact ⟨ret_bool' hF.out.symm, below2 hb hb3⟩
          · have hN := hide (hnx.out (by omega))
            clear hst hnx hU
            go_wp2_with fail
            refine wp_region_later Try.mixed (by kernel_rfl) ?_
            repeat (first | go_big_quiet_step (first | fail) | quiet_step (first | fail))
            refine wpQuiet_nil ?_
            intro w3 hb3
            replace hb3 := below_of_later hb3
            go_wp2
            go_roundw
            case rel => exact ⟨k + 1, by omega, by go_num, below2 hb hb3, gr.mono hb3, hN⟩
            case measure => simp [intOf]; omega
        · obtain rfl : k = ws.length := by omega
          have hF := hide (asn_all hz.out hU.out)
          go_wp2
          go_ret
          exact ⟨ret_bool' hF.out.symm, hb⟩
    · have hx2 : (x != 1) = true := by simpa using hx1
      have hF := hide (asn_no (p := p) (vars := vars) (W := ws) fun h => hx1 (by rw [hx]; exact h.2))
      replace hx := hide hx
      replace hx1 := hide hx1
      replace hl := hide hl
      go_enter Try.func76, Try.ntmps76
      go_wp2_with fail
      go_ret
      exact ⟨ret_bool' hF.out.symm, (Below.refl _ _).alloc (Nat.le_refl _) _⟩
  · have hl2 : ((ws.length : Int) != vars) = true := by simpa using hl
    have hF := hide (asn_no (p := p) (vars := vars) (W := ws) fun h => hl h.1)
    replace hl := hide hl
    go_enter Try.func76, Try.ntmps76
    go_wp2_with fail
    go_ret
    exact ⟨ret_bool' hF.out.symm, (Below.refl _ _).alloc (Nat.le_refl _) _⟩

set_option maxHeartbeats 1600000 in
theorem rHolds_any (p : Int) (x y z : Lc) (wa : Option Addr) (wc : Nat) (ws : List Int) (w : World) (hW : Sl w .u64 wa ws) (hA : AllW ws) (hx : LcOk w x) (hy : LcOk w y) (hz : LcOk w z) :
    Calls Try.prog 87 #[.int .u64 p, .agg #[.slice x.ad x.l.length x.cap, .slice y.ad y.l.length y.cap, .slice z.ad z.l.length z.cap], .slice wa ws.length wc] w fun e w' => e = .returned (.bool (rowSat p ws ⟨x, y, z⟩)) ∧ Below w.heap.size w w' := by
  have hbx := lval_bd p ws x.l
  have hby := lval_bd p ws y.l
  have hbz := lval_bd p ws z.l
  have hrs : rowSat p ws ⟨x, y, z⟩ = (fmul p (lval p ws x.l) (lval p ws y.l) == lval p ws z.l) := rfl
  go_enter Try.func87, Try.ntmps87
  go_wp2_with fail
  refine name_world fun W hN => ?_
  have g1 : Blk W w.heap.size #[.slice x.ad x.l.length x.cap, .slice y.ad y.l.length y.cap, .slice z.ad z.l.length z.cap] 51 := by rw [hN]; exact Blk.newAt rfl
  have hB : Below w.heap.size w W := by rw [hN]; exact (Below.refl _ _).alloc (Nat.le_refl _) _
  clear hN
  have r0 := cell_later' (g1.cell (j := 0) (v := .slice x.ad x.l.length x.cap) rfl)
  have r1 := cell_later' (g1.cell (j := 1) (v := .slice y.ad y.l.length y.cap) rfl)
  have r2 := cell_later' (g1.cell (j := 2) (v := .slice z.ad z.l.length z.cap) rfl)
  have cx := fun P => rValue_any p x wa wc ws (later W P) ((hx.mono hB).mono (below_later _ _)) ((hW.mono hB).mono (below_later _ _)) hA
  have cy := fun P => rValue_any p y wa wc ws (later W P) ((hy.mono hB).mono (below_later _ _)) ((hW.mono hB).mono (below_later _ _)) hA
  have cz := fun P => rValue_any p z wa wc ws (later W P) ((hz.mono hB).mono (below_later _ _)) ((hW.mono hB).mono (below_later _ _)) hA
  generalize lval p ws x.l = vx at *
  generalize lval p ws y.l = vy at *
  generalize lval p ws z.l = vz at *
  have cm := fun P => rMul_any p vx vy (later W P) (by omega) (by omega) (by omega) (by omega)
  replace hrs := hide hrs
  clear hx hy hz hW hA
  refine wp_region_later Try.mixed (by kernel_rfl) ?_
  repeat (first | go_big_quiet_step (first | (go_at_call_of 20 (Lc.l x); exact Calls.later_of (cx _)) | (go_at_call_of 20 (Lc.l y); exact Calls.later_of (cy _)) | (go_at_call_of 20 (Lc.l z); exact Calls.later_of (cz _)) | (go_at_call 21; exact Calls.later_of (cm _))) | quiet_step (first | (go_at_call_of 20 (Lc.l x); exact Calls.later_of (cx _)) | (go_at_call_of 20 (Lc.l y); exact Calls.later_of (cy _)) | (go_at_call_of 20 (Lc.l z); exact Calls.later_of (cz _)) | (go_at_call 21; exact Calls.later_of (cm _))))
  refine wpQuiet_nil ?_
  intro w3 hb3
  replace hb3 := below_of_later hb3
  go_wp2
  go_ret
  exact ⟨ret_bool' hrs.out.symm, below2 hB hb3⟩
end Go.Proofs.Ytlflkddgdbdebaa
