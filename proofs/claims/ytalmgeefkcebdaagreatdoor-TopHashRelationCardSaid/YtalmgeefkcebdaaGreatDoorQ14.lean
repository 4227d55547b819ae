/- Circuits: the value of a linear combination, of the program and of the references. -/
import Derived.Test.YtalmgeefkcebdaaGreatDoorQ13
import Derived.Laws.BitsAllLaws
namespace Go.Proofs.YtalmgeefkcebdaaGreatDoor
open Go.RowKit

theorem lstep_in {p : Int} {W : List Int} {s : Int} {j : Nat} {c : Int} (h : j < W.length) : lstep p W s ((j : Int), c) = fadd p s (fmul p c (W.getD j 0)) := by
  unfold lstep
  rw [if_pos ⟨by omega, by simp only; omega⟩, Int.toNat_natCast]
theorem lstep_out {p : Int} {W : List Int} {s v c : Int} (h : ¬ (0 ≤ v ∧ v < (W.length : Int))) : lstep p W s (v, c) = s := by
  unfold lstep
  rw [if_neg h]

set_option maxHeartbeats 1600000 in
theorem tValue_any (p : Int) (s : Lc) (wa : Option Addr) (wc : Nat) (ws : List Int) (w : World) (hs : LcOk w s) (hW : Sl w .u64 wa ws) (hA : AllW ws) :
    Calls Tryz.prog 60 #[.int .u64 p, .slice s.ad s.l.length s.cap, .slice wa ws.length wc] w fun e w' => e = .returned (.int .u64 (lval p ws s.l)) ∧ Below w.heap.size w w' := by
  obtain ⟨a, cap, L⟩ := s
  have hl := hs.sl
  have hw := hs.wl
  have hle := hide (lc_len hs)
  clear hs
  simp only at hl hw ⊢
  go_enter Tryz.func60, Tryz.ntmps60
  go_wp2_with fail
  have g0 : Blk (w.alloc (.cells #[.int .u64 p] 72)) w.heap.size #[.int .u64 p] 72 := Blk.newAt rfl
  have hB0 := (Below.refl w.heap.size w).alloc (Nat.le_refl _) (.cells #[.int .u64 p] 72)
  go_loopw [8, 15] (fun t8 t15 wr => ∃ k : Nat, k ≤ L.length ∧ t8 = .int .u64 (lval p ws (L.take k)) ∧ t15 = .int .i64 k ∧ Below w.heap.size w wr ∧ Blk wr w.heap.size #[.int .u64 p] 72) (fun _ t15 _ => L.length - (intOf t15).toNat)
  case atStart => exact ⟨0, Nat.zero_le _, rfl, rfl, hB0, g0⟩
  case round =>
    clear g0 hB0
    obtain ⟨k, hk, rfl, rfl, hb, gr⟩ := hrel
    by_cases hlt : k < L.length
    · have hlt' : (k : Int) < L.length := by omega
      have hst := lval_step p ws L hlt
      have hbd := lval_bd p ws (L.take k)
      obtain ⟨b, off, rfl, _, hc0, hc1⟩ := (hl.mono hb).get hlt
      have hv := hw.get hlt
      obtain ⟨S, hS⟩ : ∃ S, S = lval p ws (L.take k) := ⟨_, rfl⟩
      obtain ⟨N, hN⟩ : ∃ N, N = lval p ws (L.take (k + 1)) := ⟨_, rfl⟩
      rw [← hS] at hbd hst ⊢
      rw [← hN] at hst
      replace hN := hide hN
      clear hS
      generalize L.getD k (0, 0) = t at *
      obtain ⟨v, c⟩ := t
      simp only at hc0 hc1 hv
      replace hst := hide hst
      have hBa := hb.alloc hb.size (.cells #[.int .i64 v, .int .u64 c] 131)
      have gA := gr.alloc (.cells #[.int .i64 v, .int .u64 c] 131)
      have gT : Blk (wr.alloc (.cells #[.int .i64 v, .int .u64 c] 131)) wr.heap.size #[.int .i64 v, .int .u64 c] 131 := Blk.newAt rfl
      by_cases hr0 : 0 ≤ v
      · by_cases hr1 : v < (ws.length : Int)
        · have hdd : True := trivial
          obtain ⟨j, rfl⟩ := Int.eq_ofNat_of_zero_le hr0
          have hj : j < ws.length := by omega
          have hst2 := hide (hst.out.trans (lstep_in hj))
          obtain ⟨b2, off2, rfl, _, hd⟩ := (hW.mono hb).get hj
          have hx := hA.get hj
          generalize ws.getD j 0 = x at *
          have hm := fmul_bd p c x
          replace hd := cell_below ((Below.refl wr.heap.size wr).alloc (Nat.le_refl _) (.cells #[.int .i64 j, .int .u64 c] 131)) hd
          clear hst hl hw hW hA
          go_wp2_with fail
          generalize wr.alloc (.cells #[.int .i64 j, .int .u64 c] 131) = W at *
          have k0 := cell_later' (gA.cell (j := 0) (v := .int .u64 p) rfl)
          have m0 := cell_later' (gT.cell (j := 0) (v := .int .i64 j) rfl)
          have m1 := cell_later' (gT.cell (j := 1) (v := .int .u64 c) rfl)
          have hd' := cell_later' hd
          refine wp_region_later Tryz.mixed (by kernel_rfl) ?_
          repeat (quiet_step (first | (go_at_call 61; exact Calls.later_of (Mul_any _ _ _ _ (by omega) (by omega) (by omega) (by omega))) | (go_at_call 114; exact Calls.later_of (Add_any _ _ _ _ (by omega) (by omega) (by omega) (by omega)))))
          refine wpQuiet_nil ?_
          intro w3 hb3
          replace hb3 := below_of_later hb3
          replace gA := gA.mono hb3
          replace hBa := below2 hBa hb3
          clear k0 m0 m1 hd' hd gT
          go_wp2
          go_roundw
          case rel => exact ⟨k + 1, by omega, by rw [← hN.out, hst2.out], rel_succ hlt hle.out, hBa, gA⟩
          case measure => exact meas_succ hlt hle.out
        · have hst2 := hide (hst.out.trans (lstep_out fun h => hr1 h.2))
          clear hst hl hw hW hA
          go_wp2_with fail
          go_roundw
          case rel => exact ⟨k + 1, by omega, by rw [← hN.out, hst2.out], rel_succ hlt hle.out, hBa, gA⟩
          case measure => exact meas_succ hlt hle.out
      · have hst2 := hide (hst.out.trans (lstep_out fun h => hr0 h.1))
        clear hst hl hw hW hA
        go_wp2_with fail
        go_roundw
        case rel => exact ⟨k + 1, by omega, by rw [← hN.out, hst2.out], rel_succ hlt hle.out, hBa, gA⟩
        case measure => exact meas_succ hlt hle.out
    · obtain rfl : k = L.length := by omega
      have hT := hide (show L.take L.length = L from List.take_length)
      go_wp2
      go_ret
      exact ⟨ret_int (by rw [hT.out]), hb⟩


theorem asn_no {p vars : Int} {W : List Int} (h : ¬ ((W.length : Int) = vars ∧ W.getD 0 0 = 1)) : asnOk p vars W = false := by
  unfold asnOk
  exact decide_eq_false fun hh => h ⟨hh.1, hh.2.1⟩
theorem asn_stop {p vars : Int} {W : List Int} {k : Nat} (hk : k < W.length) (h : p ≤ W.getD k 0) : asnOk p vars W = false := by
  unfold asnOk
  exact decide_eq_false fun hh => by have := hh.2.2 k hk; omega
theorem asn_all {p vars : Int} {W : List Int} (h : (W.length : Int) = vars ∧ W.getD 0 0 = 1) (h2 : ∀ k, k < W.length → W.getD k 0 < p) : asnOk p vars W = true := by
  unfold asnOk
  exact decide_eq_true ⟨h.1, h.2, h2⟩

set_option maxHeartbeats 1600000 in
theorem tAsn_any (p pub vars : Int) (ra : Option Addr) (R : List Rw) (rc : Nat) (wa : Option Addr) (wc : Nat) (ws : List Int) (w : World) (hW : Sl w .u64 wa ws) (hA : AllW ws) (h0 : 0 < vars) (h1 : vars ≤ 65536) :
    Calls Tryz.prog 63 #[.agg #[.int .u64 p, .int .i64 pub, .int .i64 vars, .slice ra R.length rc], .slice wa ws.length wc] w fun e w' => e = .returned (.bool (asnOk p vars ws)) ∧ Below w.heap.size w w' := by
  by_cases hl : (ws.length : Int) = vars
  · have hl2 : ((ws.length : Int) != vars) = false := by simp [hl]
    have hl16 : ws.length ≤ 65536 := by omega
    obtain ⟨b, off, rfl, hbl, hc⟩ := hW.get (i := 0) (by omega)
    have hpos : 0 < ws.length := by omega
    simp only [Nat.add_zero] at hc
    obtain ⟨x, hx⟩ : ∃ x, x = ws.getD 0 0 := ⟨_, rfl⟩
    rw [← hx] at hc
    by_cases hx1 : x = 1
    · have hx2 : (x != 1) = false := by simp [hx1]
      have hz := hide (show (ws.length : Int) = vars ∧ ws.getD 0 0 = 1 from ⟨hl, by rw [← hx]; exact hx1⟩)
      replace hx := hide hx
      replace hx1 := hide hx1
      replace hl := hide hl
      go_enter Tryz.func63, Tryz.ntmps63
      go_wp2_with fail
      go_loopw [20] (fun t20 wr => ∃ k : Nat, k ≤ ws.length ∧ t20 = .int .i64 k ∧ Below w.heap.size w wr ∧ Blk wr w.heap.size #[.int .u64 p, .int .i64 pub, .int .i64 vars, .slice ra R.length rc] 44 ∧ Hid (∀ j, j < k → ws.getD j 0 < p)) (fun t20 _ => ws.length - (intOf t20).toNat)
      case atStart => exact ⟨0, Nat.zero_le _, rfl, (Below.refl _ _).alloc (Nat.le_refl _) _, Blk.newAt rfl, hide fun j hj => by omega⟩
      case round =>
        obtain ⟨k, hk, rfl, hb, gr, hU⟩ := hrel
        clear hc
        have k0 := gr.cell (j := 0) (v := .int .u64 p) rfl
        by_cases hlt : k < ws.length
        · have hlt' : (k : Int) < ws.length := by omega
          obtain ⟨b2, off2, e2, _, hd⟩ := (hW.mono hb).get hlt
          cases e2
          have hst := hide (fun h => asn_stop (p := p) (vars := vars) hlt h)
          have hnx := hide (fun h : ws.getD k 0 < p => fun j (hj : j < k + 1) => (by
            rcases Nat.lt_or_ge j k with h2 | h2
            · exact hU.out j h2
            · have : j = k := by omega
              subst this; exact h : ws.getD j 0 < p))
          have hxr := hA.get hlt
          generalize ws.getD k 0 = y at *
          by_cases hy : p ≤ y
          · have hF := hide (hst.out hy)
            clear hst hnx hU
            go_wp2
            go_ret
            exact ⟨ret_bool' hF.out.symm, hb⟩
          · have hN := hide (hnx.out (by omega))
            clear hst hnx hU
            go_wp2
            go_roundw
            case rel => exact ⟨k + 1, by omega, by go_num, hb, gr, hN⟩
            case measure => simp [intOf]; omega
        · obtain rfl : k = ws.length := by omega
          have hF := hide (asn_all hz.out hU.out)
          go_wp2
          go_ret
          exact ⟨ret_bool' hF.out.symm, hb⟩
    · have hx2 : (x != 1) = true := by simpa using hx1
      have hF := hide (asn_no (p := p) (vars := vars) (W := ws) fun h => hx1 (by rw [hx]; exact h.2))
      replace hx := hide hx
      replace hx1 := hide hx1
      replace hl := hide hl
      go_enter Tryz.func63, Tryz.ntmps63
      go_wp2_with fail
      go_ret
      exact ⟨ret_bool' hF.out.symm, (Below.refl _ _).alloc (Nat.le_refl _) _⟩
  · have hl2 : ((ws.length : Int) != vars) = true := by simpa using hl
    have hF := hide (asn_no (p := p) (vars := vars) (W := ws) fun h => hl h.1)
    replace hl := hide hl
    go_enter Tryz.func63, Tryz.ntmps63
    go_wp2_with fail
    go_ret
    exact ⟨ret_bool' hF.out.symm, (Below.refl _ _).alloc (Nat.le_refl _) _⟩


/-- A number is returned that is negative exactly if all rows are satisfied. -/
def RetU (p : Int) (ws : List Int) (R : List Rw) (w : World) (e : Ending) (w' : World) : Prop := ∃ i : Int, e = .returned (.int .i64 i) ∧ (i < 0 ↔ rowsSat p ws R = true) ∧ Below w.heap.size w w'
theorem rs_stop {p : Int} {W : List Int} {R : List Rw} {k : Nat} (hk : k < R.length) (h : rowSat p W (R.getD k default) = false) : rowsSat p W R = false := by
  unfold rowsSat
  exact decide_eq_false fun hh => by have := hh k hk; rw [h] at this; cases this
theorem rs_all {p : Int} {W : List Int} {R : List Rw} (h : ∀ k, k < R.length → rowSat p W (R.getD k default) = true) : rowsSat p W R = true := by
  unfold rowsSat
  exact decide_eq_true h
theorem RetU.no {p : Int} {ws : List Int} {R : List Rw} {w w' : World} (k : Nat) (h : rowsSat p ws R = false) (hb : Below w.heap.size w w') : RetU p ws R w (.returned (.int .i64 (k : Int))) w' :=
  ⟨k, rfl, ⟨fun h => by omega, fun h2 => by rw [h] at h2; cases h2⟩, hb⟩
theorem RetU.all {p : Int} {ws : List Int} {R : List Rw} {w w' : World} (h : rowsSat p ws R = true) (hb : Below w.heap.size w w') : RetU p ws R w (.returned (.int .i64 (-1))) w' :=
  ⟨-1, rfl, ⟨fun _ => h, fun _ => by omega⟩, hb⟩

set_option maxHeartbeats 1600000 in
theorem tUnsat_any (p pub vars : Int) (ra : Option Addr) (R : List Rw) (rc : Nat) (wa : Option Addr) (wc : Nat) (ws : List Int) (w : World) (hR : RowsP w ra rc R) (hW : Sl w .u64 wa ws) (hA : AllW ws) (hl16 : R.length ≤ 16384) :
    Calls Tryz.prog 64 #[.agg #[.int .u64 p, .int .i64 pub, .int .i64 vars, .slice ra R.length rc], .slice wa ws.length wc] w (RetU p ws R w) := by
  go_enter Tryz.func64, Tryz.ntmps64
  go_wp2_with fail
  go_loopw [14] (fun t14 wr => ∃ k : Nat, k ≤ R.length ∧ t14 = .int .i64 k ∧ Below w.heap.size w wr ∧ Blk wr w.heap.size #[.int .u64 p, .int .i64 pub, .int .i64 vars, .slice ra R.length rc] 44 ∧ Blk wr (w.heap.size + 1) #[.int .u64 p] 72 ∧ Hid (∀ j, j < k → rowSat p ws (R.getD j default) = true)) (fun t14 _ => R.length - (intOf t14).toNat)
  case atStart => exact ⟨0, Nat.zero_le _, rfl, ((Below.refl _ _).alloc (Nat.le_refl _) _).alloc (by simp) _, (Blk.newAt rfl).alloc _, Blk.newAt (by simp), hide fun j hj => by omega⟩
  case round =>
    obtain ⟨k, hk, rfl, hb, g0, g1, hU⟩ := hrel
    by_cases hlt : k < R.length
    · have hlt' : (k : Int) < R.length := by omega
      have hR' := hR.mono hb
      obtain ⟨b, off, e, _, hc⟩ := hR'.s (by omega)
      obtain ⟨hc0, hc1, hc2⟩ := hc k hlt
      obtain ⟨hx, hy, hz⟩ := hR'.ok _ (getD_mem' hlt default)
      have hst := hide (fun h => rs_stop (p := p) (W := ws) hlt h)
      have hnx := hide (fun h : rowSat p ws (R.getD k default) = true => fun j (hj : j < k + 1) => (by
        rcases Nat.lt_or_ge j k with h2 | h2
        · exact hU.out j h2
        · have : j = k := by omega
          subst this; exact h : rowSat p ws (R.getD j default) = true))
      clear hc hR' hU hR
      generalize R.getD k default = r at *
      obtain ⟨x, y, z⟩ := r
      simp only at hc0 hc1 hc2 hx hy hz
      have hBa := hb.alloc hb.size (.cells #[.slice x.ad x.l.length x.cap, .slice y.ad y.l.length y.cap, .slice z.ad z.l.length z.cap] 97)
      have hBw := (Below.refl wr.heap.size wr).alloc (Nat.le_refl _) (.cells #[.slice x.ad x.l.length x.cap, .slice y.ad y.l.length y.cap, .slice z.ad z.l.length z.cap] 97)
      have gT : Blk (wr.alloc (.cells #[.slice x.ad x.l.length x.cap, .slice y.ad y.l.length y.cap, .slice z.ad z.l.length z.cap] 97)) wr.heap.size #[.slice x.ad x.l.length x.cap, .slice y.ad y.l.length y.cap, .slice z.ad z.l.length z.cap] 97 := Blk.newAt rfl
      have g0A := g0.alloc (.cells #[.slice x.ad x.l.length x.cap, .slice y.ad y.l.length y.cap, .slice z.ad z.l.length z.cap] 97)
      have g1A := g1.alloc (.cells #[.slice x.ad x.l.length x.cap, .slice y.ad y.l.length y.cap, .slice z.ad z.l.length z.cap] 97)
      replace hx := hx.mono hBw
      replace hy := hy.mono hBw
      replace hz := hz.mono hBw
      subst e
      go_wp2_with fail
      generalize wr.alloc (.cells #[.slice x.ad x.l.length x.cap, .slice y.ad y.l.length y.cap, .slice z.ad z.l.length z.cap] 97) = W at *
      have q0 := cell_later' (g0A.cell (j := 0) (v := .int .u64 p) rfl)
      have q1 := cell_later' (g1A.cell (j := 0) (v := .int .u64 p) rfl)
      have r0 := cell_later' (gT.cell (j := 0) (v := .slice x.ad x.l.length x.cap) rfl)
      have r1 := cell_later' (gT.cell (j := 1) (v := .slice y.ad y.l.length y.cap) rfl)
      have r2 := cell_later' (gT.cell (j := 2) (v := .slice z.ad z.l.length z.cap) rfl)
      have hWW := hW.mono hBa
      have cx := fun P => tValue_any p x wa wc ws (later W P) (hx.mono (below_later _ _)) (hWW.mono (below_later _ _)) hA
      have cy := fun P => tValue_any p y wa wc ws (later W P) (hy.mono (below_later _ _)) (hWW.mono (below_later _ _)) hA
      have cz := fun P => tValue_any p z wa wc ws (later W P) (hz.mono (below_later _ _)) (hWW.mono (below_later _ _)) hA
      have hbx := lval_bd p ws x.l
      have hby := lval_bd p ws y.l
      have hbz := lval_bd p ws z.l
      have hrs : rowSat p ws ⟨x, y, z⟩ = (fmul p (lval p ws x.l) (lval p ws y.l) == lval p ws z.l) := rfl
      have hbm := fmul_bd p (lval p ws x.l) (lval p ws y.l)
      have cm := fun P => Mul_any p (lval p ws x.l) (lval p ws y.l) (later W P) hbx.1 hbx.2 hby.1 hby.2
      generalize fmul p (lval p ws x.l) (lval p ws y.l) = vm at *
      generalize lval p ws x.l = vx at *
      generalize lval p ws y.l = vy at *
      generalize lval p ws z.l = vz at *
      generalize rowSat p ws ⟨x, y, z⟩ = q at *
      replace hrs := hide hrs
      clear hx hy hz hW hWW hA hc0 hc1 hc2
      refine wp_region_later Tryz.mixed (by kernel_rfl) ?_
      repeat (first | go_big_quiet_step (first | (go_at_call_of 60 (Lc.l x); exact Calls.later_of (cx _)) | (go_at_call_of 60 (Lc.l y); exact Calls.later_of (cy _)) | (go_at_call_of 60 (Lc.l z); exact Calls.later_of (cz _)) | (go_at_call 61; exact Calls.later_of (cm _))) | quiet_step (first | (go_at_call_of 60 (Lc.l x); exact Calls.later_of (cx _)) | (go_at_call_of 60 (Lc.l y); exact Calls.later_of (cy _)) | (go_at_call_of 60 (Lc.l z); exact Calls.later_of (cz _)) | (go_at_call 61; exact Calls.later_of (cm _))))
      refine wpQuiet_nil ?_
      intro w3 hb3
      replace hb3 := below_of_later hb3
      replace hBa := below2 hBa hb3
      replace g0A := g0A.mono hb3
      replace g1A := g1A.mono hb3
      clear cx cy cz cm q0 q1 r0 r1 r2 gT hb3 g0 g1 hBw
      by_cases hq : vm = vz
      · have hq2 : (vm != vz) = false := by simp [hq]
        have hN := hide (hnx.out (by rw [hrs.out]; simp [hq]))
        replace hq := hide hq
        clear hst hnx hrs
        go_wp2
        go_roundw
        case rel => exact ⟨k + 1, by omega, by go_num, hBa, g0A, g1A, hN⟩
        case measure => simp [intOf]; omega
      · have hq2 : (vm != vz) = true := by simpa using hq
        have hF := hide (hst.out (by rw [hrs.out]; simpa using hq))
        replace hq := hide hq
        clear hst hnx hrs
        go_wp2
        go_ret
        exact RetU.no k hF.out hBa
    · obtain rfl : k = R.length := by omega
      have hF := hide (rs_all hU.out)
      go_wp2
      go_ret
      exact RetU.all hF.out hb

set_option maxHeartbeats 1600000 in
theorem tSat_any (p pub vars : Int) (ra : Option Addr) (R : List Rw) (rc : Nat) (wa : Option Addr) (wc : Nat) (ws : List Int) (w : World) (hR : RowsP w ra rc R) (hW : Sl w .u64 wa ws) (hA : AllW ws) :
    Calls Tryz.prog 25 #[.agg #[.int .u64 p, .int .i64 pub, .int .i64 vars, .slice ra R.length rc], .slice wa ws.length wc] w fun e w' => e = .returned (.bool (satOk p pub vars R ws)) ∧ Below w.heap.size w w' := by
  have cT := fun W h => tValid_any p pub vars ra R rc W h
  have cA := fun W h1 h2 h3 => tAsn_any p pub vars ra R rc wa wc ws W h1 hA h2 h3
  have cU := fun W h1 h2 h3 => tUnsat_any p pub vars ra R rc wa wc ws W h1 h2 hA h3
  have hs : satOk p pub vars R ws = (tblOk p pub vars R && asnOk p vars ws && rowsSat p ws R) := rfl
  obtain ⟨T, hT⟩ : ∃ T, T = tblOk p pub vars R := ⟨_, rfl⟩
  rw [← hT] at cT hs
  replace hT := hide hT
  generalize asnOk p vars ws = A at *
  generalize satOk p pub vars R ws = S at *
  replace hs := hide hs
  go_enter Tryz.func25, Tryz.ntmps25
  go_wp2_with fail
  refine name_calls fun W hN => ?_
  have g0 : Blk W w.heap.size #[.int .u64 p, .int .i64 pub, .int .i64 vars, .slice ra R.length rc] 44 := by rw [hN]; exact Blk.newAt rfl
  have hB : Below w.heap.size w W := by rw [hN]; exact (Below.refl _ _).alloc (Nat.le_refl _) _
  clear hN
  refine (cT W (hR.mono hB)).mono ?_
  rintro e w1 ⟨rfl, hb1⟩
  replace hB := below2 hB hb1
  replace g0 := g0.mono hb1
  clear hb1 cT
  have k0 := g0.cell (j := 0) (v := .int .u64 p) rfl; have k1 := g0.cell (j := 1) (v := .int .i64 pub) rfl; have k2 := g0.cell (j := 2) (v := .int .i64 vars) rfl; have k3 := g0.cell (j := 3) (v := .slice ra R.length rc) rfl
  cases T with
  | false =>
    have hF := hide (show S = false by rw [hs.out]; rfl)
    clear cA cU hs
    go_wp2
    go_ret
    exact ⟨ret_bool' hF.out.symm, hB⟩
  | true =>
    obtain ⟨_, hp0, hp1, hp2, hp3⟩ := tbl_bd hT.out.symm
    go_wp2_with fail
    refine (cA w1 (hW.mono hB) (by omega) hp2).mono ?_
    rintro e w2 ⟨rfl, hb2⟩
    replace hB := below2 hB hb2
    replace g0 := g0.mono hb2
    clear hb2 cA k0 k1 k2 k3
    have k0 := g0.cell (j := 0) (v := .int .u64 p) rfl; have k1 := g0.cell (j := 1) (v := .int .i64 pub) rfl; have k2 := g0.cell (j := 2) (v := .int .i64 vars) rfl; have k3 := g0.cell (j := 3) (v := .slice ra R.length rc) rfl
    cases A with
    | false =>
      have hF := hide (show S = false by rw [hs.out]; rfl)
      clear cU hs
      go_wp2
      go_ret
      exact ⟨ret_bool' hF.out.symm, hB⟩
    | true =>
      go_wp2_with fail
      refine (cU w2 (hR.mono hB) (hW.mono hB) hp3).mono ?_
      rintro e w3 ⟨i, rfl, hi, hb3⟩
      replace hB := below2 hB hb3
      clear hb3 cU k0 k1 k2 k3
      have hF := hide (show S = decide (i < 0) by rw [hs.out]; simp only [Bool.true_and, hi]; cases rowsSat p ws R <;> rfl)
      clear hs hi
      go_wp2
      go_ret
      exact ⟨ret_bool' hF.out.symm, hB⟩

def allLt (p : Int) (l : List Int) : Bool := decide (∀ i, i < l.length → l.getD i 0 < p)
theorem allLt_stop {p : Int} {W : List Int} {k : Nat} (hk : k < W.length) (h : p ≤ W.getD k 0) : allLt p W = false := by
  unfold allLt
  exact decide_eq_false fun hh => by have := hh k hk; omega
theorem allLt_all {p : Int} {W : List Int} (h2 : ∀ k, k < W.length → W.getD k 0 < p) : allLt p W = true := decide_eq_true h2

set_option maxHeartbeats 1600000 in
theorem below_any (p : Int) (wa : Option Addr) (wc : Nat) (ws : List Int) (w : World) (hW : Sl w .u64 wa ws) (hA : AllW ws) (hl16 : ws.length ≤ 65536) :
    Calls Tryz.prog 59 #[.slice wa ws.length wc, .int .u64 p] w fun e w' => e = .returned (.bool (allLt p ws)) ∧ Below w.heap.size w w' := by
  go_enter Tryz.func59, Tryz.ntmps59
  go_wp2_with fail
  go_loopw [9] (fun t9 wr => ∃ k : Nat, k ≤ ws.length ∧ t9 = .int .i64 k ∧ Below w.heap.size w wr ∧ Hid (∀ j, j < k → ws.getD j 0 < p)) (fun t9 _ => ws.length - (intOf t9).toNat)
  case atStart => exact ⟨0, Nat.zero_le _, rfl, Below.refl _ _, hide fun j hj => by omega⟩
  case round =>
    obtain ⟨k, hk, rfl, hb, hU⟩ := hrel
    by_cases hlt : k < ws.length
    · have hlt' : (k : Int) < ws.length := by omega
      obtain ⟨b2, off2, rfl, _, hd⟩ := (hW.mono hb).get hlt
      have hst := hide (fun h => allLt_stop (p := p) hlt h)
      have hnx := hide (fun h : ws.getD k 0 < p => fun j (hj : j < k + 1) => (by
        rcases Nat.lt_or_ge j k with h2 | h2
        · exact hU.out j h2
        · have : j = k := by omega
          subst this; exact h : ws.getD j 0 < p))
      have hxr := hA.get hlt
      generalize ws.getD k 0 = y at *
      by_cases hy : p ≤ y
      · have hF := hide (hst.out hy)
        clear hst hnx hU
        go_wp2
        go_ret
        exact ⟨ret_bool' hF.out.symm, hb⟩
      · have hN := hide (hnx.out (by omega))
        clear hst hnx hU
        go_wp2
        go_roundw
        case rel => exact ⟨k + 1, by omega, by go_num, hb, hN⟩
        case measure => simp [intOf]; omega
    · obtain rfl : k = ws.length := by omega
      have hF := hide (allLt_all hU.out)
      go_wp2
      go_ret
      exact ⟨ret_bool' hF.out.symm, hb⟩


theorem ofInt_u64 (a : Nat) (ha : a < 18446744073709551616) : (BitVec.ofInt 64 (a : Int)).toNat = a := by
  rw [BitVec.ofInt_natCast, BitVec.toNat_ofNat]; exact Nat.mod_eq_of_lt (by omega)
theorem bit_andU (q : Nat) (hq : q < 18446744073709551616) : bits .and .u64 (q : Int) 1 = ((q % 2 : Nat) : Int) := by
  have h1 : bits .and .u64 (q : Int) ((1 : Nat) : Int) = ((q &&& 1 : Nat) : Int) := by
    have hx : q &&& 1 < 2 ^ 63 := Nat.and_lt_two_pow _ (by decide)
    show IntKind.u64.wrap ((BitVec.ofInt 64 (q : Int) &&& BitVec.ofInt 64 ((1 : Nat) : Int)).toNat : Int) = _
    rw [BitVec.toNat_and, ofInt_u64 q hq, ofInt_u64 1 (by decide)]
    simp only [IntKind.wrap, IntKind.bits, IntKind.signed]
    simp
    omega
  rw [Nat.and_one_is_mod] at h1
  exact h1
theorem bit_factU (q i : Nat) (hq : q < 18446744073709551616) : bits .and .u64 ((q : Int) / 2 ^ i) 1 = ((q / 2 ^ i % 2 : Nat) : Int) := by
  have e : ((2 : Int) ^ i) = ((2 ^ i : Nat) : Int) := (Int.natCast_pow 2 i).symm
  rw [e, ← Int.natCast_ediv]
  exact bit_andU _ (Nat.lt_of_le_of_lt (Nat.div_le_self _ _) hq)
theorem own_neq {w : World} {base : Nat} {E : TypeId} {k : IntKind} {v : Value} {xs : List Int} {b : Nat} {cs : Array Value} {T : TypeId} (h : Own w base E k v xs) (g : Blk w b cs T) (hT : ¬ E = T) : v.ownBlock ≠ some b := fun e => by
  rcases h.form with ⟨rfl, _⟩ | ⟨g', cap, cur, rfl, _, hgb, _⟩
  · cases e
  · injection e with e
    subst e
    have := hgb.symm.trans g
    injection this with this
    injection this with _ this
    exact hT this

/-- append of one element, which lies in the block just made; its number by an equation. -/
theorem wpList_appX {P : Program} (w : World) {ops : Array Oper} {rest : List Oper} {o : Oper} {a : Act} {Q : Exit → Act → World → Prop} (E : TypeId) (k : IntKind) (y : Int) (hgd : o.guard = none) (s x : Operand) (t : TypeId)
    (ho : o.op = .call { callee := .builtin .append, args := #[s, x], argTypes := #[t, t] })
    (base : Nat) (bytes : Nat) (ht : P.underlying t = some (.slice E)) (hinfo : (P.info? E).map (fun i => (i.zero, i.size, i.bytes)) = some (some (.int k 0), 1, bytes)) (h8 : bytes ≤ 8)
    (v : Value) (xs : List Int) (z : Nat) (hs : a.eval s = v) (hx : a.eval x = .slice (some ⟨z, 0, none⟩) 1 1) (hz : z = w.heap.size) (hown : Own w base E k v xs) (hlen : xs.length < 1099511627775) (hbase : base ≤ w.heap.size)
    (h : ∀ v' w', Own w' base E k v' (xs ++ [y]) → Grew w w' v v' → wpList P ops Q rest (a.put o.dst v') w') : wpList P ops Q (o :: rest) a (w.alloc (.cells #[.int k y] E)) :=
  wpList_app1 w E k y hgd s x t ho base bytes ht hinfo h8 v xs hs (by rw [hx, hz]) hown hlen hbase h

/-- What Run and Satisfy return. -/
def RetR (w : World) (l : List Int) (err : Int) (e : Ending) (w' : World) : Prop := ∃ v, e = .returned (.tuple #[v, .int .i64 err]) ∧ Own w' w.heap.size 23 .u64 v l ∧ Below w.heap.size w w'

theorem hint_cases {p v : Int} {h : Hn} (e : hintOk p v h = true) : linOk p v h.a.l = true ∧ ((h.k = 1 ∧ linOk p v h.b.l = true) ∨ h.k = 2 ∨ (h.k = 3 ∧ 0 ≤ h.bit ∧ h.bit ≤ 63)) := by
  unfold hintOk at e
  simp only [Bool.and_eq_true] at e
  obtain ⟨e1, e2⟩ := e
  refine ⟨e1, ?_⟩
  split at e2
  · rename_i h1
    simp only [Bool.and_eq_true] at e2
    exact .inl ⟨h1, e2.1⟩
  · split at e2
    · rename_i h2
      exact .inr (.inl h2)
    · split at e2
      · rename_i h3
        simp only [Bool.and_eq_true, decide_eq_true_eq] at e2
        exact .inr (.inr ⟨h3, e2.2⟩)
      · cases e2
theorem hval1 {p : Int} {W : List Int} {h : Hn} (e : h.k = 1) : hval p W h = fmul p (lval p W h.a.l) (lval p W h.b.l) := by unfold hval; rw [if_pos e]
theorem hval2 {p : Int} {W : List Int} {h : Hn} (e : h.k = 2) : hval p W h = finv p (lval p W h.a.l) := by unfold hval; rw [if_neg (by omega), if_pos e]
theorem hval3 {p : Int} {W : List Int} {h : Hn} (e : h.k = 3) : hval p W h = lval p W h.a.l / 2 ^ h.bit.toNat % 2 := by unfold hval; rw [if_neg (by omega), if_neg (by omega)]
theorem cir_bd {p pub vars sec : Int} {R : List Rw} {H : List Hn} (h : cirOk p pub vars R sec H = true) : tblOk p pub vars R = true ∧ 0 ≤ sec ∧ vars = 1 + pub + sec + H.length ∧ ∀ i, i < H.length → hintOk p (1 + pub + sec + i) (H.getD i default) = true := of_decide_eq_true h
theorem inp_no {p pub sec : Int} {u s : List Int} (h : ¬ ((u.length : Int) = pub ∧ (s.length : Int) = sec)) : inpOk p pub sec u s = false := by
  unfold inpOk
  exact decide_eq_false fun hh => h ⟨hh.1, hh.2.1⟩
theorem inp_eq {p pub sec : Int} {u s : List Int} (h : (u.length : Int) = pub ∧ (s.length : Int) = sec) : inpOk p pub sec u s = (allLt p u && allLt p s) := by
  unfold inpOk allLt
  simp [h.1, h.2]

/-- The loop of Run. -/
structure RunSt (w wr : World) (bC bF : Nat) (cs : Array Value) (p : Int) (v : Value) (l : List Int) : Prop where
  b : Below w.heap.size w wr
  c : Blk wr bC cs 47
  f : Blk wr bF #[.int .u64 p] 72
  o : Own wr w.heap.size 23 .u64 v l
theorem RunSt.mono {w wr w2 : World} {bC bF : Nat} {cs : Array Value} {p : Int} {v : Value} {l : List Int} (h : RunSt w wr bC bF cs p v l) (hb : Below wr.heap.size wr w2) : RunSt w w2 bC bF cs p v l :=
  ⟨below2 h.b hb, h.c.mono hb, h.f.mono hb, h.o.mono hb⟩
theorem RunSt.grew {w wr w2 : World} {bC bF : Nat} {cs : Array Value} {p : Int} {v v' : Value} {l l' : List Int} (h : RunSt w wr bC bF cs p v l) (hg : Grew wr w2 v v') (ho : Own w2 w.heap.size 23 .u64 v' l') : RunSt w w2 bC bF cs p v' l' :=
  ⟨hg.below h.b h.o (Nat.le_refl _) h.b.size, hg.blk h.c (own_neq h.o h.c (by decide)), hg.blk h.f (own_neq h.o h.f (by decide)), ho⟩

set_option maxRecDepth 10000 in
set_option maxHeartbeats 4000000 in
theorem aRun_any (p pub vars : Int) (ra : Option Addr) (R : List Rw) (rc : Nat) (sec : Int) (ha : Option Addr) (H : List Hn) (hc : Nat) (ua : Option Addr) (uc : Nat) (u : List Int) (sa : Option Addr) (sc : Nat) (s : List Int) (w : World)
    (hR : RowsP w ra rc R) (hH : HintsP w ha hc H) (hsec : (Lit.int .i64 sec).wf = true) (hu : Sl w .u64 ua u) (hs : Sl w .u64 sa s) (hAu : AllW u) (hAs : AllW s) :
    Calls Tryz.prog 24 #[.agg #[.int .u64 p, .int .i64 pub, .int .i64 vars, .slice ra R.length rc, .int .i64 sec, .slice ha H.length hc], .slice ua u.length uc, .slice sa s.length sc] w (RetR w (runL p pub vars R sec H u s) (runE p pub vars R sec H u s)) := by
  have cC := fun W h1 h2 => aCValid_any p pub vars ra R rc sec ha H hc W h1 h2 hsec
  have eL : runL p pub vars R sec H u s = if cirOk p pub vars R sec H && inpOk p pub sec u s then runH p (1 :: (u ++ s)) H else [] := rfl
  have eE : runE p pub vars R sec H u s = if cirOk p pub vars R sec H && inpOk p pub sec u s then 0 else 1 := rfl
  rw [eL, eE]
  clear eL eE
  obtain ⟨C, hC⟩ : ∃ C, C = cirOk p pub vars R sec H := ⟨_, rfl⟩
  rw [← hC] at cC ⊢
  obtain ⟨I, hI⟩ : ∃ I, I = inpOk p pub sec u s := ⟨_, rfl⟩
  rw [← hI]
  cases C with
  | false =>
    rw [Bool.false_and, if_neg (by decide), if_neg (by decide)]
    clear hC hI hu hs hAu hAs hsec
    go_enter Tryz.func24, Tryz.ntmps24
    go_wp2_with fail
    refine name_calls fun W hN => ?_
    have g0 : Blk W w.heap.size #[.int .u64 p, .int .i64 pub, .int .i64 vars, .slice ra R.length rc, .int .i64 sec, .slice ha H.length hc] 47 := by rw [hN]; exact Blk.newAt rfl
    have hB : Below w.heap.size w W := by rw [hN]; exact (Below.refl _ _).alloc (Nat.le_refl _) _
    clear hN
    refine (cC W (hR.mono hB) (hH.mono hB)).mono ?_
    rintro e w1 ⟨rfl, hb1⟩
    go_wp2
    exact bodyPost_ret (v := .tuple #[.slice none 0 0, .int .i64 1]) (by simp [results, Tryz.results24, go_sem]) rfl ⟨_, rfl, Own.nil _ _ _ _, below2 hB hb1⟩
  | true =>
    rw [Bool.true_and]
    obtain ⟨hT, hs0, hv, hok⟩ := cir_bd hC.symm
    obtain ⟨hvp, hp0, hp1, hp2, _⟩ := tbl_bd hT
    clear hC hT hsec
    by_cases hl1 : (u.length : Int) = pub
    · by_cases hl2 : (s.length : Int) = sec
      · rw [inp_eq ⟨hl1, hl2⟩] at hI
        have cU := fun W h => below_any p ua uc u W h hAu (by omega)
        have cS := fun W h => below_any p sa sc s W h hAs (by omega)
        have hl1' : ((u.length : Int) != pub) = false := by simp [hl1]
        have hl2' : ((s.length : Int) != sec) = false := by simp [hl2]
        have hlen : u.length + s.length + 1 + H.length ≤ 65536 := by omega
        obtain ⟨V, rfl⟩ := Int.eq_ofNat_of_zero_le (show 0 ≤ vars by omega)
        have hV1 : 1 ≤ V := by omega
        have hV2 : V ≤ 65536 := by omega
        have hmk := fun W => run_mkI (P := Tryz.prog) (t := 52) (e := 23) (k := .u64) (bytes := 8) Tryz.underlying52 Tryz.infoU64 (by decide) (L := 0) (C := (V : Int)) 0 V rfl rfl (by omega) (by omega) W
        replace hv := hide hv
        replace hl1 := hide hl1
        replace hl2 := hide hl2
        replace hok := hide hok
        generalize allLt p u = Au at *
        generalize allLt p s = As at *
        obtain ⟨RL, hRL⟩ : ∃ RL, RL = if I = true then runH p (1 :: (u ++ s)) H else [] := ⟨_, rfl⟩
        obtain ⟨RE, hRE⟩ : ∃ RE : Int, RE = if I = true then 0 else 1 := ⟨_, rfl⟩
        rw [← hRL, ← hRE]
        replace hRL := hide hRL
        replace hRE := hide hRE
        replace hI := hide hI
        go_enter Tryz.func24, Tryz.ntmps24
        go_wp2_with fail
        refine name_calls fun W hN => ?_
        have g0 : Blk W w.heap.size #[.int .u64 p, .int .i64 pub, .int .i64 (V : Int), .slice ra R.length rc, .int .i64 sec, .slice ha H.length hc] 47 := by rw [hN]; exact Blk.newAt rfl
        have hB : Below w.heap.size w W := by rw [hN]; exact (Below.refl _ _).alloc (Nat.le_refl _) _
        clear hN
        refine (cC W (hR.mono hB) (hH.mono hB)).mono ?_
        rintro e w1 ⟨rfl, hb1⟩
        replace g0 := g0.mono hb1
        replace hB := below2 hB hb1
        clear hb1 cC hR
        have k0 := g0.cell (j := 0) (v := .int .u64 p) rfl; have k1 := g0.cell (j := 1) (v := .int .i64 pub) rfl; have k2 := g0.cell (j := 2) (v := .int .i64 (V : Int)) rfl; have k3 := g0.cell (j := 3) (v := .slice ra R.length rc) rfl; have k4 := g0.cell (j := 4) (v := .int .i64 sec) rfl; have k5 := g0.cell (j := 5) (v := .slice ha H.length hc) rfl
        go_wp2_with fail
        refine (cU w1 (hu.mono hB)).mono ?_
        rintro e w2 ⟨rfl, hb2⟩
        replace g0 := g0.mono hb2
        replace hB := below2 hB hb2
        clear hb2 cU k0 k1 k2 k3 k4 k5
        have k0 := g0.cell (j := 0) (v := .int .u64 p) rfl; have k1 := g0.cell (j := 1) (v := .int .i64 pub) rfl; have k2 := g0.cell (j := 2) (v := .int .i64 (V : Int)) rfl; have k3 := g0.cell (j := 3) (v := .slice ra R.length rc) rfl; have k4 := g0.cell (j := 4) (v := .int .i64 sec) rfl; have k5 := g0.cell (j := 5) (v := .slice ha H.length hc) rfl
        cases Au with
        | false =>
          have e1 := hide (show RL = [] by rw [hRL.out, hI.out]; rfl)
          have e2 := hide (show RE = 1 by rw [hRE.out, hI.out]; rfl)
          clear hI cS hmk
          go_wp2
          exact bodyPost_ret (v := .tuple #[.slice none 0 0, .int .i64 1]) (by simp [results, Tryz.results24, go_sem]) rfl ⟨_, by rw [e2.out], by rw [e1.out]; exact Own.nil _ _ _ _, hB⟩
        | true =>
          go_wp2_with fail
          refine (cS w2 (hs.mono hB)).mono ?_
          rintro e w3 ⟨rfl, hb3⟩
          replace g0 := g0.mono hb3
          replace hB := below2 hB hb3
          clear hb3 cS k0 k1 k2 k3 k4 k5
          have k0 := g0.cell (j := 0) (v := .int .u64 p) rfl; have k1 := g0.cell (j := 1) (v := .int .i64 pub) rfl; have k2 := g0.cell (j := 2) (v := .int .i64 (V : Int)) rfl; have k3 := g0.cell (j := 3) (v := .slice ra R.length rc) rfl; have k4 := g0.cell (j := 4) (v := .int .i64 sec) rfl; have k5 := g0.cell (j := 5) (v := .slice ha H.length hc) rfl
          cases As with
          | false =>
            have e1 := hide (show RL = [] by rw [hRL.out, hI.out]; rfl)
            have e2 := hide (show RE = 1 by rw [hRE.out, hI.out]; rfl)
            clear hI hmk
            go_wp2
            exact bodyPost_ret (v := .tuple #[.slice none 0 0, .int .i64 1]) (by simp [results, Tryz.results24, go_sem]) rfl ⟨_, by rw [e2.out], by rw [e1.out]; exact Own.nil _ _ _ _, hB⟩
          | true =>
            have e1 := hide (show RL = runH p (1 :: (u ++ s)) H by rw [hRL.out, hI.out]; rfl)
            have e2 := hide (show RE = 0 by rw [hRE.out, hI.out]; rfl)
            clear hI hRL hRE
            have ownM : Own (w3.alloc (.cells (madeCells #[.int .u64 0] V) 23)) w.heap.size 23 .u64 (.slice (some ⟨w3.heap.size, 0, none⟩) 0 V) [] := Own.of_blk (xs := []) hB.size (Blk.new _ _ _) (by simp) (by simp only [maxLen]; omega) (by simp [madeCells]) rfl
            have g0M := g0.alloc (.cells (madeCells #[.int .u64 0] V) 23)
            have hBM := hB.alloc hB.size (.cells (madeCells #[.int .u64 0] V) 23)
            have hpos := hB.size
            go_wp2_with (at_builtin; refine wpList_appX _ 23 .u64 1 rfl _ _ 52 rfl w.heap.size 8 Tryz.underlying52 Tryz.infoU64 (by decide) _ [] _ rfl rfl (by simp) ownM (by simp) hBM.size ?_; intro v4 w4 own4 hg4; refine Hold.mk ?_)
            refine Hold.go ?_
            replace g0 := hg4.blk g0M (own_neq ownM g0M (by decide))
            replace hB := hg4.below hBM ownM (Nat.le_refl _) hBM.size
            clear ownM g0M hBM hg4 hmk k0 k1 k2 k3 k4 k5
            rw [List.nil_append] at own4
            have hu4 := hu.mono hB
            go_wp2_with (at_builtin; refine wpList_app _ rfl _ _ 52 rfl w.heap.size 23 .u64 8 Tryz.underlying52 Tryz.infoU64 (by decide) _ [1] u uc _ rfl rfl own4 hu4 (by simp; omega) hB.size ?_; intro v5 w5 own5 hg5; refine Hold.mk ?_)
            refine Hold.go ?_
            replace g0 := hg5.blk g0 (own_neq own4 g0 (by decide))
            replace hB := hg5.below hB own4 (Nat.le_refl _) hB.size
            clear own4 hg5 hu4
            have hs5 := hs.mono hB
            go_wp2_with (at_builtin; refine wpList_app _ rfl _ _ 52 rfl w.heap.size 23 .u64 8 Tryz.underlying52 Tryz.infoU64 (by decide) _ ([1] ++ u) s sc _ rfl rfl own5 hs5 (by simp; omega) hB.size ?_; intro v6 w6 own6 hg6; refine Hold.mk ?_)
            refine Hold.go ?_
            replace g0 := hg6.blk g0 (own_neq own5 g0 (by decide))
            replace hB := hg6.below hB own5 (Nat.le_refl _) hB.size
            clear own5 hg6 hs5 hu hs
            obtain ⟨L0, hL0⟩ : ∃ L0, L0 = 1 :: (u ++ s) := ⟨_, rfl⟩
            rw [show [1] ++ u ++ s = L0 by rw [hL0]; simp] at own6
            rw [← hL0] at e1
            have hL0W : AllW L0 := fun x hx => by
              rw [hL0] at hx
              rcases List.mem_cons.1 hx with h1 | h1
              · rw [h1]; decide
              · rcases List.mem_append.1 h1 with h2 | h2
                · exact hAu x h2
                · exact hAs x h2
            have hL0l : L0.length = 1 + u.length + s.length := by rw [hL0]; simp; omega
            clear hAu hAs
            replace hL0 := hide hL0
            have k0 := g0.cell (j := 0) (v := .int .u64 p) rfl; have k1 := g0.cell (j := 1) (v := .int .i64 pub) rfl; have k2 := g0.cell (j := 2) (v := .int .i64 (V : Int)) rfl; have k3 := g0.cell (j := 3) (v := .slice ra R.length rc) rfl; have k4 := g0.cell (j := 4) (v := .int .i64 sec) rfl; have k5 := g0.cell (j := 5) (v := .slice ha H.length hc) rfl
            have hl3 : L0.length + H.length ≤ 65536 := by omega
            clear hlen
            have hg0 := g0.lt
            go_wp2_with fail
            generalize hF : w6.heap.size = bF at *
            have gF : Blk (w6.alloc (.cells #[.int .u64 p] 72)) bF #[.int .u64 p] 72 := Blk.newAt hF.symm
            have S0 : RunSt w (w6.alloc (.cells #[.int .u64 p] 72)) w.heap.size bF #[.int .u64 p, .int .i64 pub, .int .i64 (V : Int), .slice ra R.length rc, .int .i64 sec, .slice ha H.length hc] p v6 L0 := ⟨hB.alloc hB.size _, g0.alloc _, gF, own6.alloc _⟩
            clear hB g0 gF own6 hg0
            go_loopw [9, 65] (fun t9 t65 wr => ∃ k : Nat, k ≤ H.length ∧ t65 = .int .i64 k ∧ RunSt w wr w.heap.size bF #[.int .u64 p, .int .i64 pub, .int .i64 (V : Int), .slice ra R.length rc, .int .i64 sec, .slice ha H.length hc] p t9 (runH p L0 (H.take k))) (fun _ t65 _ => H.length - (intOf t65).toNat)
            case atStart => exact ⟨0, Nat.zero_le _, rfl, S0⟩
            case round =>
              clear S0 k0 k1 k2 k3 k4 k5
              obtain ⟨k, hk, rfl, S⟩ := hrel
              by_cases hlt : k < H.length
              · have hlt' : (k : Int) < H.length := by omega
                have hH' := hH.mono S.b
                obtain ⟨b, off, e, _, hc⟩ := hH'.s (by omega)
                obtain ⟨hc0, hc1, hc2, hc3⟩ := hc k hlt
                obtain ⟨hx, hy, _, _⟩ := hH'.ok _ (getD_mem' hlt default)
                have hst := runH_step p L0 H hlt
                obtain ⟨hlin, hcs⟩ := hint_cases (hok.out k hlt)
                have hMl := runH_len p L0 (H.take k)
                rw [List.length_take] at hMl
                have hMW : AllW (runH p L0 (H.take k)) := runH_mem (fun W h => hval_bd p W h) hL0W _
                obtain ⟨N, hN⟩ : ∃ N, N = runH p L0 (H.take (k + 1)) := ⟨_, rfl⟩
                rw [← hN] at hst
                generalize runH p L0 (H.take k) = M at *
                have hMl2 : M.length ≤ 65536 := by omega
                clear hc hH' hlin hok hMl
                generalize H.getD k default = r at *
                obtain ⟨kk, x, y, bit⟩ := r
                simp only at hc0 hc1 hc2 hc3 hx hy hcs
                obtain ⟨a9, c9, rfl, hM, _, _⟩ := Own.sl S.o
                have hBw := (Below.refl wr.heap.size wr).alloc (Nat.le_refl _) (.cells #[.int .i64 kk, .slice x.ad x.l.length x.cap, .slice y.ad y.l.length y.cap, .int .i64 bit] 134)
                have gT : Blk (wr.alloc (.cells #[.int .i64 kk, .slice x.ad x.l.length x.cap, .slice y.ad y.l.length y.cap, .int .i64 bit] 134)) wr.heap.size #[.int .i64 kk, .slice x.ad x.l.length x.cap, .slice y.ad y.l.length y.cap, .int .i64 bit] 134 := Blk.newAt rfl
                replace S := S.mono hBw
                replace hx := hx.mono hBw
                replace hy := hy.mono hBw
                replace hM := hM.mono hBw
                clear hBw
                subst e
                replace hst := hide hst
                replace hN := hide hN
                go_wp2_with fail
                generalize wr.alloc (.cells #[.int .i64 kk, .slice x.ad x.l.length x.cap, .slice y.ad y.l.length y.cap, .int .i64 bit] 134) = W at *
                have vb := lval_bd p M x.l
                have h1 := fun e => hval1 (p := p) (W := M) (h := ⟨kk, x, y, bit⟩) e
                have h2 := fun e => hval2 (p := p) (W := M) (h := ⟨kk, x, y, bit⟩) e
                have h3 := fun e => hval3 (p := p) (W := M) (h := ⟨kk, x, y, bit⟩) e
                simp only at h1 h2 h3
                refine (tValue_any p x a9 c9 M W hx hM hMW).mono ?_
                rintro e w8 ⟨rfl, hb8⟩
                generalize lval p M x.l = va at *
                replace S := S.mono hb8
                replace hy := hy.mono hb8
                replace hM := hM.mono hb8
                replace gT := gT.mono hb8
                clear hx hb8 hc0 hc1 hc2 hc3
                have t0 := gT.cell (j := 0) (v := .int .i64 kk) rfl
                rcases hcs with ⟨e1, _⟩ | e1 | ⟨e1, e2, e3⟩
                · have hvl := hide (h1 e1)
                  subst e1
                  clear h1 h2 h3
                  have cy := fun P => tValue_any p y a9 c9 M (later w8 P) (hy.mono (below_later _ _)) (hM.mono (below_later _ _)) hMW
                  have vby := lval_bd p M y.l
                  generalize lval p M y.l = vb2 at *
                  have cm := fun P => Mul_any p va vb2 (later w8 P) vb.1 vb.2 vby.1 vby.2
                  generalize fmul p va vb2 = vm at *
                  go_wp2_with fail
                  have f0 := cell_later' (S.f.cell (j := 0) (v := .int .u64 p) rfl)
                  have t2 := cell_later' (gT.cell (j := 2) (v := .slice y.ad y.l.length y.cap) rfl)
                  refine wp_region_later Tryz.mixed (by kernel_rfl) ?_
                  repeat (first | go_big_quiet_step (first | (go_at_call 60; exact Calls.later_of (cy _)) | (go_at_call 61; exact Calls.later_of (cm _))) | quiet_step (first | (go_at_call 60; exact Calls.later_of (cy _)) | (go_at_call 61; exact Calls.later_of (cm _))))
                  refine wpQuiet_nil ?_
                  intro w5 hb5
                  replace hb5 := below_of_later hb5
                  replace S := S.mono hb5
                  clear hb5 cy cm f0 t2 t0 gT hy hM
                  go_wp2_with (at_builtin; refine wpList_appX _ 23 .u64 _ rfl _ _ 52 rfl w.heap.size 8 Tryz.underlying52 Tryz.infoU64 (by decide) _ M _ rfl rfl (by simp) S.o (by omega) S.b.size ?_; intro v9 w9 own9 hg9; refine Hold.mk ?_)
                  refine Hold.go ?_
                  replace S := S.grew hg9 own9
                  clear own9 hg9
                  go_wp2
                  go_roundw
                  case rel => exact ⟨k + 1, by omega, by go_num, by rw [← hN.out, hst.out, hvl.out]; exact S⟩
                  case measure => simp [intOf]; omega
                · have hvl := hide (h2 e1)
                  subst e1
                  clear h1 h2 h3
                  have ib := finv_bd p va
                  have ci := Inv_any p va w8 vb.1 vb.2
                  generalize finv p va = vi at *
                  have f0 := S.f.cell (j := 0) (v := .int .u64 p) rfl
                  go_wp2_with fail
                  refine ci.mono ?_
                  rintro e w5 ⟨rfl, hb5⟩
                  replace S := S.mono hb5
                  clear hb5 ci f0 t0 gT hy hM
                  go_wp2_with (at_builtin; refine wpList_appX _ 23 .u64 _ rfl _ _ 52 rfl w.heap.size 8 Tryz.underlying52 Tryz.infoU64 (by decide) _ M _ rfl rfl (by simp) S.o (by omega) S.b.size ?_; intro v9 w9 own9 hg9; refine Hold.mk ?_)
                  refine Hold.go ?_
                  replace S := S.grew hg9 own9
                  clear own9 hg9
                  go_wp2
                  go_roundw
                  case rel => exact ⟨k + 1, by omega, by go_num, by rw [← hN.out, hst.out, hvl.out]; exact S⟩
                  case measure => simp [intOf]; omega
                · have hvl := hide (h3 e1)
                  subst e1
                  clear h1 h2 h3
                  obtain ⟨q, rfl⟩ := Int.eq_ofNat_of_zero_le vb.1
                  obtain ⟨i, rfl⟩ := Int.eq_ofNat_of_zero_le e2
                  have hbt := bit_factU q i (by omega)
                  have hvl2 := hide (show hval p M ⟨3, x, y, (i : Int)⟩ = ((q / 2 ^ i % 2 : Nat) : Int) by
                    rw [hvl.out, Int.toNat_natCast, show ((2 : Int) ^ i) = ((2 ^ i : Nat) : Int) from (Int.natCast_pow 2 i).symm]
                    omega)
                  clear hvl
                  have hvl := hvl2
                  clear hvl2
                  have t3 := gT.cell (j := 3) (v := .int .i64 i) rfl
                  generalize q / 2 ^ i % 2 = bt at *
                  clear hy hM
                  go_wp2_with (at_builtin; refine wpList_appX _ 23 .u64 _ rfl _ _ 52 rfl w.heap.size 8 Tryz.underlying52 Tryz.infoU64 (by decide) _ M _ rfl rfl (by simp) S.o (by omega) S.b.size ?_; intro v9 w9 own9 hg9; refine Hold.mk ?_)
                  refine Hold.go ?_
                  replace S := S.grew hg9 own9
                  clear own9 hg9
                  go_wp2
                  go_roundw
                  case rel => exact ⟨k + 1, by omega, by go_num, by rw [← hN.out, hst.out, hvl.out]; exact S⟩
                  case measure => simp [intOf]; omega
              · obtain rfl : k = H.length := by omega
                have hT := hide (show H.take H.length = H from List.take_length)
                obtain ⟨a9, c9, e9, _, _, _⟩ := Own.sl S.o
                subst e9
                go_wp2
                exact bodyPost_ret (v := .tuple #[.slice a9 (runH p L0 (H.take H.length)).length c9, .int .i64 0]) (by simp [results, Tryz.results24, go_sem]) rfl ⟨_, by rw [e2.out], by rw [e1.out]; have := S.o; rw [hT.out] at this ⊢; exact this, S.b⟩
      · have hl1' : ((u.length : Int) != pub) = false := by simp [hl1]
        have hl2' : ((s.length : Int) != sec) = true := by simpa using hl2
        rw [inp_no fun h => hl2 h.2] at hI
        rw [hI, if_neg (by decide), if_neg (by decide)]
        replace hl1 := hide hl1
        replace hl2 := hide hl2
        clear hI hu hs hAu hAs hv hok
        go_enter Tryz.func24, Tryz.ntmps24
        go_wp2_with fail
        refine name_calls fun W hN => ?_
        have g0 : Blk W w.heap.size #[.int .u64 p, .int .i64 pub, .int .i64 vars, .slice ra R.length rc, .int .i64 sec, .slice ha H.length hc] 47 := by rw [hN]; exact Blk.newAt rfl
        have hB : Below w.heap.size w W := by rw [hN]; exact (Below.refl _ _).alloc (Nat.le_refl _) _
        clear hN
        refine (cC W (hR.mono hB) (hH.mono hB)).mono ?_
        rintro e w1 ⟨rfl, hb1⟩
        replace g0 := g0.mono hb1
        have k0 := g0.cell (j := 0) (v := .int .u64 p) rfl; have k1 := g0.cell (j := 1) (v := .int .i64 pub) rfl; have k2 := g0.cell (j := 2) (v := .int .i64 vars) rfl; have k3 := g0.cell (j := 3) (v := .slice ra R.length rc) rfl; have k4 := g0.cell (j := 4) (v := .int .i64 sec) rfl; have k5 := g0.cell (j := 5) (v := .slice ha H.length hc) rfl
        go_wp2
        exact bodyPost_ret (v := .tuple #[.slice none 0 0, .int .i64 1]) (by simp [results, Tryz.results24, go_sem]) rfl ⟨_, rfl, Own.nil _ _ _ _, below2 hB hb1⟩
    · have hl1' : ((u.length : Int) != pub) = true := by simpa using hl1
      rw [inp_no fun h => hl1 h.1] at hI
      rw [hI, if_neg (by decide), if_neg (by decide)]
      replace hl1 := hide hl1
      clear hI hu hs hAu hAs hv hok
      go_enter Tryz.func24, Tryz.ntmps24
      go_wp2_with fail
      refine name_calls fun W hN => ?_
      have g0 : Blk W w.heap.size #[.int .u64 p, .int .i64 pub, .int .i64 vars, .slice ra R.length rc, .int .i64 sec, .slice ha H.length hc] 47 := by rw [hN]; exact Blk.newAt rfl
      have hB : Below w.heap.size w W := by rw [hN]; exact (Below.refl _ _).alloc (Nat.le_refl _) _
      clear hN
      refine (cC W (hR.mono hB) (hH.mono hB)).mono ?_
      rintro e w1 ⟨rfl, hb1⟩
      replace g0 := g0.mono hb1
      have k0 := g0.cell (j := 0) (v := .int .u64 p) rfl; have k1 := g0.cell (j := 1) (v := .int .i64 pub) rfl; have k2 := g0.cell (j := 2) (v := .int .i64 vars) rfl; have k3 := g0.cell (j := 3) (v := .slice ra R.length rc) rfl; have k4 := g0.cell (j := 4) (v := .int .i64 sec) rfl; have k5 := g0.cell (j := 5) (v := .slice ha H.length hc) rfl
      go_wp2
      exact bodyPost_ret (v := .tuple #[.slice none 0 0, .int .i64 1]) (by simp [results, Tryz.results24, go_sem]) rfl ⟨_, rfl, Own.nil _ _ _ _, below2 hB hb1⟩


end Go.Proofs.YtalmgeefkcebdaaGreatDoor

