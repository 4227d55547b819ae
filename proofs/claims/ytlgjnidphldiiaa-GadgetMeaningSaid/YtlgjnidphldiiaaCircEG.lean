/- Circuits: the value of a linear combination, of the program and of the references. -/
import Derived.Test.YtlgjnidphldiiaaCircV
import Derived.Test.YtlgjnidphldiiaaCircY
import Derived.Test.YtlgjnidphldiiaaCircZ
namespace Go.Proofs.Ytlgjnidphldiiaa
open Go.RowKit

theorem lstep_in {p : Int} {W : List Int} {s : Int} {j : Nat} {c : Int} (h : j < W.length) : lstep p W s ((j : Int), c) = fadd p s (fmul p c (W.getD j 0)) := by
  unfold lstep
  rw [if_pos ⟨by omega, by simp only; omega⟩, Int.toNat_natCast]
theorem lstep_out {p : Int} {W : List Int} {s v c : Int} (h : ¬ (0 ≤ v ∧ v < (W.length : Int))) : lstep p W s (v, c) = s := by
  unfold lstep
  rw [if_neg h]

set_option maxHeartbeats 1600000 in
theorem tValue_any (p : Int) (s : Lc) (wa : Option Addr) (wc : Nat) (ws : List Int) (w : World) (hs : LcOk w s) (hW : Sl w .u64 wa ws) (hA : AllW ws) :
    Calls Try.prog 152 #[.int .u64 p, .slice s.ad s.l.length s.cap, .slice wa ws.length wc] w fun e w' => e = .returned (.int .u64 (lval p ws s.l)) ∧ Below w.heap.size w w' := by
  obtain ⟨a, cap, L⟩ := s
  have hl := hs.sl
  have hw := hs.wl
  have hle := hide (lc_len hs)
  clear hs
  simp only at hl hw ⊢
  go_enter Try.func152, Try.ntmps152
  go_wp2_with fail
  have g0 : Blk (w.alloc (.cells #[.int .u64 p] 102)) w.heap.size #[.int .u64 p] 102 := Blk.newAt rfl
  have hB0 := (Below.refl w.heap.size w).alloc (Nat.le_refl _) (.cells #[.int .u64 p] 102)
  go_loopw [8, 15] (fun t8 t15 wr => ∃ k : Nat, k ≤ L.length ∧ t8 = .int .u64 (lval p ws (L.take k)) ∧ t15 = .int .i64 k ∧ Below w.heap.size w wr ∧ Blk wr w.heap.size #[.int .u64 p] 102) (fun _ t15 _ => L.length - (intOf t15).toNat)
  case atStart => exact ⟨0, Nat.zero_le _, rfl, rfl, hB0, g0⟩
  case round =>
    clear g0 hB0
    obtain ⟨k, hk, rfl, rfl, hb, gr⟩ := hrel
    by_cases hlt : k < L.length
    · have hlt' : (k : Int) < L.length := by omega
      have hst := lval_step p ws L hlt
      have hbd := lval_bd p ws (L.take k)
      obtain ⟨b, off, rfl, _, hc0, hc1⟩ := (hl.mono hb).get hlt
      have hv := hw.get hlt
      obtain ⟨S, hS⟩ : ∃ S, S = lval p ws (L.take k) := ⟨_, rfl⟩
      obtain ⟨N, hN⟩ : ∃ N, N = lval p ws (L.take (k + 1)) := ⟨_, rfl⟩
      rw [← hS] at hbd hst ⊢
      rw [← hN] at hst
      replace hN := hide hN
      clear hS
      generalize L.getD k (0, 0) = t at *
      obtain ⟨v, c⟩ := t
      simp only at hc0 hc1 hv
      replace hst := hide hst
      have hBa := hb.alloc hb.size (.cells #[.int .i64 v, .int .u64 c] 100)
      have gA := gr.alloc (.cells #[.int .i64 v, .int .u64 c] 100)
      have gT : Blk (wr.alloc (.cells #[.int .i64 v, .int .u64 c] 100)) wr.heap.size #[.int .i64 v, .int .u64 c] 100 := Blk.newAt rfl
      by_cases hr0 : 0 ≤ v
      · by_cases hr1 : v < (ws.length : Int)
        · have hdd : True := trivial
          obtain ⟨j, rfl⟩ := Int.eq_ofNat_of_zero_le hr0
          have hj : j < ws.length := by omega
          have hst2 := hide (hst.out.trans (lstep_in hj))
          obtain ⟨b2, off2, rfl, _, hd⟩ := (hW.mono hb).get hj
          have hx := hA.get hj
          generalize ws.getD j 0 = x at *
          have hm := fmul_bd p c x
          replace hd := cell_below ((Below.refl wr.heap.size wr).alloc (Nat.le_refl _) (.cells #[.int .i64 j, .int .u64 c] 100)) hd
          clear hst hl hw hW hA
          go_wp2_with fail
          generalize wr.alloc (.cells #[.int .i64 j, .int .u64 c] 100) = W at *
          have k0 := cell_later' (gA.cell (j := 0) (v := .int .u64 p) rfl)
          have m0 := cell_later' (gT.cell (j := 0) (v := .int .i64 j) rfl)
          have m1 := cell_later' (gT.cell (j := 1) (v := .int .u64 c) rfl)
          have hd' := cell_later' hd
          refine wp_region_later Try.mixed (by kernel_rfl) ?_
          repeat (quiet_step (first | (go_at_call 80; exact Calls.later_of (Mul_any _ _ _ _ (by omega) (by omega) (by omega) (by omega))) | (go_at_call 79; exact Calls.later_of (Add_any _ _ _ _ (by omega) (by omega) (by omega) (by omega)))))
          refine wpQuiet_nil ?_
          intro w3 hb3
          replace hb3 := below_of_later hb3
          replace gA := gA.mono hb3
          replace hBa := below2 hBa hb3
          clear k0 m0 m1 hd' hd gT
          go_wp2
          go_roundw
          case rel => exact ⟨k + 1, by omega, by rw [← hN.out, hst2.out], rel_succ hlt hle.out, hBa, gA⟩
          case measure => exact meas_succ hlt hle.out
        · have hst2 := hide (hst.out.trans (lstep_out fun h => hr1 h.2))
          clear hst hl hw hW hA
          go_wp2_with fail
          go_roundw
          case rel => exact ⟨k + 1, by omega, by rw [← hN.out, hst2.out], rel_succ hlt hle.out, hBa, gA⟩
          case measure => exact meas_succ hlt hle.out
      · have hst2 := hide (hst.out.trans (lstep_out fun h => hr0 h.1))
        clear hst hl hw hW hA
        go_wp2_with fail
        go_roundw
        case rel => exact ⟨k + 1, by omega, by rw [← hN.out, hst2.out], rel_succ hlt hle.out, hBa, gA⟩
        case measure => exact meas_succ hlt hle.out
    · obtain rfl : k = L.length := by omega
      have hT := hide (show L.take L.length = L from List.take_length)
      go_wp2
      go_ret
      exact ⟨ret_int (by rw [hT.out]), hb⟩

set_option maxHeartbeats 1600000 in
theorem rValue_any (p : Int) (s : Lc) (wa : Option Addr) (wc : Nat) (ws : List Int) (w : World) (hs : LcOk w s) (hW : Sl w .u64 wa ws) (hA : AllW ws) :
    Calls Try.prog 147 #[.int .u64 p, .slice s.ad s.l.length s.cap, .slice wa ws.length wc] w fun e w' => e = .returned (.int .u64 (lval p ws s.l)) ∧ Below w.heap.size w w' := by
  obtain ⟨a, cap, L⟩ := s
  have hl := hs.sl
  have hw := hs.wl
  have hle := hide (lc_len hs)
  clear hs
  simp only at hl hw ⊢
  go_enter Try.func147, Try.ntmps147
  go_wp2_with fail
  go_loopw [7, 8] (fun t7 t8 wr => ∃ k : Nat, k ≤ L.length ∧ t7 = .int .u64 (lval p ws (L.take k)) ∧ t8 = .int .i64 k ∧ Below w.heap.size w wr) (fun _ t8 _ => L.length - (intOf t8).toNat)
  case atStart => exact ⟨0, Nat.zero_le _, rfl, rfl, Below.refl _ _⟩
  case round =>
    obtain ⟨k, hk, rfl, rfl, hb⟩ := hrel
    by_cases hlt : k < L.length
    · have hlt' : (k : Int) < L.length := by omega
      have hst := lval_step p ws L hlt
      have hbd := lval_bd p ws (L.take k)
      obtain ⟨b, off, rfl, _, hc0, hc1⟩ := (hl.mono hb).get hlt
      have hv := hw.get hlt
      obtain ⟨S, hS⟩ : ∃ S, S = lval p ws (L.take k) := ⟨_, rfl⟩
      obtain ⟨N, hN⟩ : ∃ N, N = lval p ws (L.take (k + 1)) := ⟨_, rfl⟩
      rw [← hS] at hbd hst ⊢
      rw [← hN] at hst
      replace hN := hide hN
      clear hS
      generalize L.getD k (0, 0) = t at *
      obtain ⟨v, c⟩ := t
      simp only at hc0 hc1 hv
      replace hst := hide hst
      by_cases hr0 : 0 ≤ v
      · by_cases hr1 : v < (ws.length : Int)
        · have hdd : True := trivial
          obtain ⟨j, rfl⟩ := Int.eq_ofNat_of_zero_le hr0
          have hj : j < ws.length := by omega
          have hst2 := hide (hst.out.trans (lstep_in hj))
          obtain ⟨b2, off2, rfl, _, hd⟩ := (hW.mono hb).get hj
          have hx := hA.get hj
          generalize ws.getD j 0 = x at *
          have hm := fmul_bd p c x
          clear hst hl hw hW hA
          go_wp2_with fail
          have m0 := cell_later' hc0
          have m1 := cell_later' hc1
          have hd' := cell_later' hd
          refine wp_region_later Try.mixed (by kernel_rfl) ?_
          repeat (quiet_step (first | (go_at_call 78; exact Calls.later_of (rMul_any _ _ _ _ (by omega) (by omega) (by omega) (by omega))) | (go_at_call 54; exact Calls.later_of (rAdd_any _ _ _ _ (by omega) (by omega) (by omega) (by omega)))))
          refine wpQuiet_nil ?_
          intro w3 hb3
          replace hb3 := below_of_later hb3
          replace hb := below2 hb hb3
          clear m0 m1 hd' hd
          go_wp2
          go_roundw
          case rel => exact ⟨k + 1, by omega, by rw [← hN.out, hst2.out], rel_succ hlt hle.out, hb⟩
          case measure => exact meas_succ hlt hle.out
        · have hst2 := hide (hst.out.trans (lstep_out fun h => hr1 h.2))
          clear hst hl hw hW hA
          go_wp2_with fail
          go_roundw
          case rel => exact ⟨k + 1, by omega, by rw [← hN.out, hst2.out], rel_succ hlt hle.out, hb⟩
          case measure => exact meas_succ hlt hle.out
      · have hst2 := hide (hst.out.trans (lstep_out fun h => hr0 h.1))
        clear hst hl hw hW hA
        go_wp2_with fail
        go_roundw
        case rel => exact ⟨k + 1, by omega, by rw [← hN.out, hst2.out], rel_succ hlt hle.out, hb⟩
        case measure => exact meas_succ hlt hle.out
    · obtain rfl : k = L.length := by omega
      have hT := hide (show L.take L.length = L from List.take_length)
      go_wp2
      go_ret
      exact ⟨ret_int (by rw [hT.out]), hb⟩

set_option maxHeartbeats 1600000 in
theorem rValue20_any (p : Int) (s : Lc) (wa : Option Addr) (wc : Nat) (ws : List Int) (w : World) (hs : LcOk w s) (hW : Sl w .u64 wa ws) (hA : AllW ws) (hin : ∀ i, i < s.l.length → 0 ≤ (s.l.getD i (0, 0)).1 ∧ (s.l.getD i (0, 0)).1 < (ws.length : Int)) :
    Calls Try.prog 37 #[.int .u64 p, .slice s.ad s.l.length s.cap, .slice wa ws.length wc] w fun e w' => e = .returned (.int .u64 (lval p ws s.l)) ∧ Below w.heap.size w w' := by
  obtain ⟨a, cap, L⟩ := s
  have hl := hs.sl
  have hw := hs.wl
  have hle := hide (lc_len hs)
  clear hs
  simp only at hl hw hin ⊢
  go_enter Try.func37, Try.ntmps37
  go_wp2_with fail
  go_loopw [7, 8] (fun t7 t8 wr => ∃ k : Nat, k ≤ L.length ∧ t7 = .int .u64 (lval p ws (L.take k)) ∧ t8 = .int .i64 k ∧ Below w.heap.size w wr) (fun _ t8 _ => L.length - (intOf t8).toNat)
  case atStart => exact ⟨0, Nat.zero_le _, rfl, rfl, Below.refl _ _⟩
  case round =>
    obtain ⟨k, hk, rfl, rfl, hb⟩ := hrel
    by_cases hlt : k < L.length
    · have hlt' : (k : Int) < L.length := by omega
      have hst := lval_step p ws L hlt
      have hbd := lval_bd p ws (L.take k)
      obtain ⟨hr0, hr1⟩ := hin k hlt
      clear hin
      obtain ⟨b, off, rfl, _, hc0, hc1⟩ := (hl.mono hb).get hlt
      have hv := hw.get hlt
      obtain ⟨S, hS⟩ : ∃ S, S = lval p ws (L.take k) := ⟨_, rfl⟩
      obtain ⟨N, hN⟩ : ∃ N, N = lval p ws (L.take (k + 1)) := ⟨_, rfl⟩
      rw [← hS] at hbd hst ⊢
      rw [← hN] at hst
      replace hN := hide hN
      clear hS
      generalize L.getD k (0, 0) = t at *
      obtain ⟨v, c⟩ := t
      simp only at hc0 hc1 hv
      replace hst := hide hst
      obtain ⟨j, rfl⟩ := Int.eq_ofNat_of_zero_le hr0
      have hj : j < ws.length := by omega
      have hst2 := hide (hst.out.trans (lstep_in hj))
      obtain ⟨b2, off2, rfl, _, hd⟩ := (hW.mono hb).get hj
      have hx := hA.get hj
      generalize ws.getD j 0 = x at *
      have hm := fmul_bd p c x
      clear hst hl hw hW hA
      go_wp2_with fail
      have m0 := cell_later' hc0
      have m1 := cell_later' hc1
      have hd' := cell_later' hd
      refine wp_region_later Try.mixed (by kernel_rfl) ?_
      repeat (quiet_step (first | (go_at_call 78; exact Calls.later_of (rMul_any _ _ _ _ (by omega) (by omega) (by omega) (by omega))) | (go_at_call 54; exact Calls.later_of (rAdd_any _ _ _ _ (by omega) (by omega) (by omega) (by omega)))))
      refine wpQuiet_nil ?_
      intro w3 hb3
      replace hb3 := below_of_later hb3
      replace hb := below2 hb hb3
      clear m0 m1 hd' hd
      go_wp2
      go_roundw
      case rel => exact ⟨k + 1, by omega, by rw [← hN.out, hst2.out], rel_succ hlt hle.out, hb⟩
      case measure => exact meas_succ hlt hle.out
    · obtain rfl : k = L.length := by omega
      have hT := hide (show L.take L.length = L from List.take_length)
      go_wp2
      go_ret
      exact ⟨ret_int (by rw [hT.out]), hb⟩

end Go.Proofs.Ytlgjnidphldiiaa

/- Circuits: which assignments satisfy a table, of the program and of the reference. -/
namespace Go.Proofs.Ytlgjnidphldiiaa
open Go.RowKit

theorem asn_no {p vars : Int} {W : List Int} (h : ¬ ((W.length : Int) = vars ∧ W.getD 0 0 = 1)) : asnOk p vars W = false := by
  unfold asnOk
  exact decide_eq_false fun hh => h ⟨hh.1, hh.2.1⟩
theorem asn_stop {p vars : Int} {W : List Int} {k : Nat} (hk : k < W.length) (h : p ≤ W.getD k 0) : asnOk p vars W = false := by
  unfold asnOk
  exact decide_eq_false fun hh => by have := hh.2.2 k hk; omega
theorem asn_all {p vars : Int} {W : List Int} (h : (W.length : Int) = vars ∧ W.getD 0 0 = 1) (h2 : ∀ k, k < W.length → W.getD k 0 < p) : asnOk p vars W = true := by
  unfold asnOk
  exact decide_eq_true ⟨h.1, h.2, h2⟩

set_option maxHeartbeats 1600000 in
theorem rHolds_any (p : Int) (x y z : Lc) (wa : Option Addr) (wc : Nat) (ws : List Int) (w : World) (hW : Sl w .u64 wa ws) (hA : AllW ws) (hx : LcOk w x) (hy : LcOk w y) (hz : LcOk w z) :
    Calls Try.prog 133 #[.int .u64 p, .agg #[.slice x.ad x.l.length x.cap, .slice y.ad y.l.length y.cap, .slice z.ad z.l.length z.cap], .slice wa ws.length wc] w fun e w' => e = .returned (.bool (rowSat p ws ⟨x, y, z⟩)) ∧ Below w.heap.size w w' := by
  have hbx := lval_bd p ws x.l
  have hby := lval_bd p ws y.l
  have hbz := lval_bd p ws z.l
  have hrs : rowSat p ws ⟨x, y, z⟩ = (fmul p (lval p ws x.l) (lval p ws y.l) == lval p ws z.l) := rfl
  go_enter Try.func133, Try.ntmps133
  go_wp2_with fail
  refine name_world fun W hN => ?_
  have g1 : Blk W w.heap.size #[.slice x.ad x.l.length x.cap, .slice y.ad y.l.length y.cap, .slice z.ad z.l.length z.cap] 106 := by rw [hN]; exact Blk.newAt rfl
  have hB : Below w.heap.size w W := by rw [hN]; exact (Below.refl _ _).alloc (Nat.le_refl _) _
  clear hN
  have r0 := cell_later' (g1.cell (j := 0) (v := .slice x.ad x.l.length x.cap) rfl)
  have r1 := cell_later' (g1.cell (j := 1) (v := .slice y.ad y.l.length y.cap) rfl)
  have r2 := cell_later' (g1.cell (j := 2) (v := .slice z.ad z.l.length z.cap) rfl)
  have cx := fun P => rValue_any p x wa wc ws (later W P) ((hx.mono hB).mono (below_later _ _)) ((hW.mono hB).mono (below_later _ _)) hA
  have cy := fun P => rValue_any p y wa wc ws (later W P) ((hy.mono hB).mono (below_later _ _)) ((hW.mono hB).mono (below_later _ _)) hA
  have cz := fun P => rValue_any p z wa wc ws (later W P) ((hz.mono hB).mono (below_later _ _)) ((hW.mono hB).mono (below_later _ _)) hA
  generalize lval p ws x.l = vx at *
  generalize lval p ws y.l = vy at *
  generalize lval p ws z.l = vz at *
  have cm := fun P => rMul_any p vx vy (later W P) (by omega) (by omega) (by omega) (by omega)
  replace hrs := hide hrs
  clear hx hy hz hW hA
  refine wp_region_later Try.mixed (by kernel_rfl) ?_
  repeat (first | go_big_quiet_step (first | (go_at_call_of 147 (Lc.l x); exact Calls.later_of (cx _)) | (go_at_call_of 147 (Lc.l y); exact Calls.later_of (cy _)) | (go_at_call_of 147 (Lc.l z); exact Calls.later_of (cz _)) | (go_at_call 78; exact Calls.later_of (cm _))) | quiet_step (first | (go_at_call_of 147 (Lc.l x); exact Calls.later_of (cx _)) | (go_at_call_of 147 (Lc.l y); exact Calls.later_of (cy _)) | (go_at_call_of 147 (Lc.l z); exact Calls.later_of (cz _)) | (go_at_call 78; exact Calls.later_of (cm _))))
  refine wpQuiet_nil ?_
  intro w3 hb3
  replace hb3 := below_of_later hb3
  go_wp2
  go_ret
  exact ⟨ret_bool' hrs.out.symm, below2 hB hb3⟩

end Go.Proofs.Ytlgjnidphldiiaa

/- Circuits: Satisfied, of the program and of the reference. -/
namespace Go.Proofs.Ytlgjnidphldiiaa
open Go.RowKit

/-- A number is returned that is negative exactly if all rows are satisfied. -/
def RetU (p : Int) (ws : List Int) (R : List Rw) (w : World) (e : Ending) (w' : World) : Prop := ∃ i : Int, e = .returned (.int .i64 i) ∧ (i < 0 ↔ rowsSat p ws R = true) ∧ Below w.heap.size w w'
theorem rs_stop {p : Int} {W : List Int} {R : List Rw} {k : Nat} (hk : k < R.length) (h : rowSat p W (R.getD k default) = false) : rowsSat p W R = false := by
  unfold rowsSat
  exact decide_eq_false fun hh => by have := hh k hk; rw [h] at this; cases this
theorem rs_all {p : Int} {W : List Int} {R : List Rw} (h : ∀ k, k < R.length → rowSat p W (R.getD k default) = true) : rowsSat p W R = true := by
  unfold rowsSat
  exact decide_eq_true h
theorem RetU.no {p : Int} {ws : List Int} {R : List Rw} {w w' : World} (k : Nat) (h : rowsSat p ws R = false) (hb : Below w.heap.size w w') : RetU p ws R w (.returned (.int .i64 (k : Int))) w' :=
  ⟨k, rfl, ⟨fun h => by omega, fun h2 => by rw [h] at h2; cases h2⟩, hb⟩
theorem RetU.all {p : Int} {ws : List Int} {R : List Rw} {w w' : World} (h : rowsSat p ws R = true) (hb : Below w.heap.size w w') : RetU p ws R w (.returned (.int .i64 (-1))) w' :=
  ⟨-1, rfl, ⟨fun _ => h, fun _ => by omega⟩, hb⟩