/- Circuits: Satisfied, of the program and of the reference. -/
import Derived.Test.YtlflkddgdbdebaaCircF
import Derived.Test.YtlflkddgdbdebaaCircZ
namespace Go.Proofs.Ytlflkddgdbdebaa
open Go.RowKit

/-- A number is returned that is negative exactly if all rows are satisfied. -/
def RetU (p : Int) (ws : List Int) (R : List Rw) (w : World) (e : Ending) (w' : World) : Prop := ∃ i : Int, e = .returned (.int .i64 i) ∧ (i < 0 ↔ rowsSat p ws R = true) ∧ Below w.heap.size w w'
theorem rs_stop {p : Int} {W : List Int} {R : List Rw} {k : Nat} (hk : k < R.length) (h : rowSat p W (R.getD k default) = false) : rowsSat p W R = false := by
  unfold rowsSat
  exact decide_eq_false fun hh => by have := hh k hk; rw [h] at this; cases this
theorem rs_all {p : Int} {W : List Int} {R : List Rw} (h : ∀ k, k < R.length → rowSat p W (R.getD k default) = true) : rowsSat p W R = true := by
  unfold rowsSat
  exact decide_eq_true h
theorem RetU.no {p : Int} {ws : List Int} {R : List Rw} {w w' : World} (k : Nat) (h : rowsSat p ws R = false) (hb : Below w.heap.size w w') : RetU p ws R w (.returned (.int .i64 (k : Int))) w' :=
  ⟨k, rfl, ⟨fun h => by omega, fun h2 => by rw [h] at h2; cases h2⟩, hb⟩
theorem RetU.all {p : Int} {ws : List Int} {R : List Rw} {w w' : World} (h : rowsSat p ws R = true) (hb : Below w.heap.size w w') : RetU p ws R w (.returned (.int .i64 (-1))) w' :=
  ⟨-1, rfl, ⟨fun _ => h, fun _ => by omega⟩, hb⟩

set_option maxHeartbeats 1600000 in
theorem tUnsat_any (p pub vars : Int) (ra : Option Addr) (R : List Rw) (rc : Nat) (wa : Option Addr) (wc : Nat) (ws : List Int) (w : World) (hR : RowsP w ra rc R) (hW : Sl w .u64 wa ws) (hA : AllW ws) (hl16 : R.length ≤ 16384) :
    Calls Try.prog 75 #[.agg #[.int .u64 p, .int .i64 pub, .int .i64 vars, .slice ra R.length rc], .slice wa ws.length wc] w (RetU p ws R w) := by
  go_enter Try.func75, Try.ntmps75
  go_wp2_with fail
  go_loopw [14] (fun t14 wr => ∃ k : Nat, k ≤ R.length ∧ t14 = .int .i64 k ∧ Below w.heap.size w wr ∧ Blk wr w.heap.size #[.int .u64 p, .int .i64 pub, .int .i64 vars, .slice ra R.length rc] 25 ∧ Blk wr (w.heap.size + 1) #[.int .u64 p] 75 ∧ Hid (∀ j, j < k → rowSat p ws (R.getD j default) = true)) (fun t14 _ => R.length - (intOf t14).toNat)
  case atStart => exact ⟨0, Nat.zero_le _, rfl, ((Below.refl _ _).alloc (Nat.le_refl _) _).alloc (by simp) _, (Blk.newAt rfl).alloc _, Blk.newAt (by simp), hide fun j hj => by omega⟩
  case round =>
    obtain ⟨k, hk, rfl, hb, g0, g1, hU⟩ := hrel
    by_cases hlt : k < R.length
    · have hlt' : (k : Int) < R.length := by omega
      have hR' := hR.mono hb
      obtain ⟨b, off, e, _, hc⟩ := hR'.s (by omega)
      obtain ⟨hc0, hc1, hc2⟩ := hc k hlt
      obtain ⟨hx, hy, hz⟩ := hR'.ok _ (getD_mem' hlt default)
      have hst := hide (fun h => rs_stop (p := p) (W := ws) hlt h)
      have hnx := hide (fun h : rowSat p ws (R.getD k default) = true => fun j (hj : j < k + 1) => (by
        rcases Nat.lt_or_ge j k with h2 | h2
        · exact hU.out j h2
        · have : j = k := by omega
          subst this; exact h : rowSat p ws (R.getD j default) = true))
      clear hc hR' hU hR
      generalize R.getD k default = r at *
      obtain ⟨x, y, z⟩ := r
      simp only at hc0 hc1 hc2 hx hy hz
      have hBa := hb.alloc hb.size (.cells #[.slice x.ad x.l.length x.cap, .slice y.ad y.l.length y.cap, .slice z.ad z.l.length z.cap] 51)
      have hBw := (Below.refl wr.heap.size wr).alloc (Nat.le_refl _) (.cells #[.slice x.ad x.l.length x.cap, .slice y.ad y.l.length y.cap, .slice z.ad z.l.length z.cap] 51)
      have gT : Blk (wr.alloc (.cells #[.slice x.ad x.l.length x.cap, .slice y.ad y.l.length y.cap, .slice z.ad z.l.length z.cap] 51)) wr.heap.size #[.slice x.ad x.l.length x.cap, .slice y.ad y.l.length y.cap, .slice z.ad z.l.length z.cap] 51 := Blk.newAt rfl
      have g0A := g0.alloc (.cells #[.slice x.ad x.l.length x.cap, .slice y.ad y.l.length y.cap, .slice z.ad z.l.length z.cap] 51)
      have g1A := g1.alloc (.cells #[.slice x.ad x.l.length x.cap, .slice y.ad y.l.length y.cap, .slice z.ad z.l.length z.cap] 51)
      replace hx := hx.mono hBw
      replace hy := hy.mono hBw
      replace hz := hz.mono hBw
      subst e
      go_wp2_with fail
      generalize wr.alloc (.cells #[.slice x.ad x.l.length x.cap, .slice y.ad y.l.length y.cap, .slice z.ad z.l.length z.cap] 51) = W at *
      have q0 := cell_later' (g0A.cell (j := 0) (v := .int .u64 p) rfl)
      have q1 := cell_later' (g1A.cell (j := 0) (v := .int .u64 p) rfl)
      have r0 := cell_later' (gT.cell (j := 0) (v := .slice x.ad x.l.length x.cap) rfl)
      have r1 := cell_later' (gT.cell (j := 1) (v := .slice y.ad y.l.length y.cap) rfl)
      have r2 := cell_later' (gT.cell (j := 2) (v := .slice z.ad z.l.length z.cap) rfl)
      have hWW := hW.mono hBa
      have cx := fun P => tValue_any p x wa wc ws (later W P) (hx.mono (below_later _ _)) (hWW.mono (below_later _ _)) hA
      have cy := fun P => tValue_any p y wa wc ws (later W P) (hy.mono (below_later _ _)) (hWW.mono (below_later _ _)) hA
      have cz := fun P => tValue_any p z wa wc ws (later W P) (hz.mono (below_later _ _)) (hWW.mono (below_later _ _)) hA
      have hbx := lval_bd p ws x.l
      have hby := lval_bd p ws y.l
      have hbz := lval_bd p ws z.l
      have hrs : rowSat p ws ⟨x, y, z⟩ = (fmul p (lval p ws x.l) (lval p ws y.l) == lval p ws z.l) := rfl
      have hbm := fmul_bd p (lval p ws x.l) (lval p ws y.l)
      have cm := fun P => Mul_any p (lval p ws x.l) (lval p ws y.l) (later W P) hbx.1 hbx.2 hby.1 hby.2
      generalize fmul p (lval p ws x.l) (lval p ws y.l) = vm at *
      generalize lval p ws x.l = vx at *
      generalize lval p ws y.l = vy at *
      generalize lval p ws z.l = vz at *
      generalize rowSat p ws ⟨x, y, z⟩ = q at *
      replace hrs := hide hrs
      clear hx hy hz hW hWW hA hc0 hc1 hc2
      refine wp_region_later Try.mixed (by kernel_rfl) ?_
      repeat (first | go_big_quiet_step (first | (go_at_call_of 42 (Lc.l x); exact Calls.later_of (cx _)) | (go_at_call_of 42 (Lc.l y); exact Calls.later_of (cy _)) | (go_at_call_of 42 (Lc.l z); exact Calls.later_of (cz _)) | (go_at_call 43; exact Calls.later_of (cm _))) | quiet_step (first | (go_at_call_of 42 (Lc.l x); exact Calls.later_of (cx _)) | (go_at_call_of 42 (Lc.l y); exact Calls.later_of (cy _)) | (go_at_call_of 42 (Lc.l z); exact Calls.later_of (cz _)) | (go_at_call 43; exact Calls.later_of (cm _))))
      refine wpQuiet_nil ?_
      intro w3 hb3
      replace hb3 := below_of_later hb3
      replace hBa := below2 hBa hb3
      replace g0A := g0A.mono hb3
      replace g1A := g1A.mono hb3
      clear cx cy cz cm q0 q1 r0 r1 r2 gT hb3 g0 g1 hBw
      by_cases hq : vm = vz
      · have hq2 : (vm != vz) = false := by simp [hq]
        have hN := hide (hnx.out (by rw [hrs.out]; simp [hq]))
        replace hq := hide hq
        clear hst hnx hrs
        go_wp2
        go_roundw
        case rel => exact ⟨k + 1, by omega, by go_num, hBa, g0A, g1A, hN⟩
        case measure => simp [intOf]; omega
      · have hq2 : (vm != vz) = true := by simpa using hq
        have hF := hide (hst.out (by rw [hrs.out]; simpa using hq))
        replace hq := hide hq
        clear hst hnx hrs
        go_wp2
        go_ret
        exact RetU.no k hF.out hBa
    · obtain rfl : k = R.length := by omega
      have hF := hide (rs_all hU.out)
      go_wp2
      go_ret
      exact RetU.all hF.out hb

set_option maxHeartbeats 1600000 in
theorem tSat_any (p pub vars : Int) (ra : Option Addr) (R : List Rw) (rc : Nat) (wa : Option Addr) (wc : Nat) (ws : List Int) (w : World) (hR : RowsP w ra rc R) (hW : Sl w .u64 wa ws) (hA : AllW ws) :
    Calls Try.prog 46 #[.agg #[.int .u64 p, .int .i64 pub, .int .i64 vars, .slice ra R.length rc], .slice wa ws.length wc] w fun e w' => e = .returned (.bool (satOk p pub vars R ws)) ∧ Below w.heap.size w w' := by
  have cT := fun W h => tValid_any p pub vars ra R rc W h
  have cA := fun W h1 h2 h3 => tAsn_any p pub vars ra R rc wa wc ws W h1 hA h2 h3
  have cU := fun W h1 h2 h3 => tUnsat_any p pub vars ra R rc wa wc ws W h1 h2 hA h3
  have hs : satOk p pub vars R ws = (tblOk p pub vars R && asnOk p vars ws && rowsSat p ws R) := rfl
  obtain ⟨T, hT⟩ : ∃ T, T = tblOk p pub vars R := ⟨_, rfl⟩
  rw [← hT] at cT hs
  replace hT := hide hT
  generalize asnOk p vars ws = A at *
  generalize satOk p pub vars R ws = S at *
  replace hs := hide hs
  go_enter Try.func46, Try.ntmps46
  go_wp2_with fail
  refine name_calls fun W hN => ?_
  have g0 : Blk W w.heap.size #[.int .u64 p, .int .i64 pub, .int .i64 vars, .slice ra R.length rc] 25 := by rw [hN]; exact Blk.newAt rfl
  have hB : Below w.heap.size w W := by rw [hN]; exact (Below.refl _ _).alloc (Nat.le_refl _) _
  clear hN
  refine (cT W (hR.mono hB)).mono ?_
  rintro e w1 ⟨rfl, hb1⟩
  replace hB := below2 hB hb1
  replace g0 := g0.mono hb1
  clear hb1 cT
  have k0 := g0.cell (j := 0) (v := .int .u64 p) rfl; have k1 := g0.cell (j := 1) (v := .int .i64 pub) rfl; have k2 := g0.cell (j := 2) (v := .int .i64 vars) rfl; have k3 := g0.cell (j := 3) (v := .slice ra R.length rc) rfl
  cases T with
  | false =>
    have hF := hide (show S = false by rw [hs.out]; rfl)
    clear cA cU hs
    go_wp2
    go_ret
    exact ⟨ret_bool' hF.out.symm, hB⟩
  | true =>
    obtain ⟨_, hp0, hp1, hp2, hp3⟩ := tbl_bd hT.out.symm
    go_wp2_with fail
    refine (cA w1 (hW.mono hB) (by omega) hp2).mono ?_
    rintro e w2 ⟨rfl, hb2⟩
    replace hB := below2 hB hb2
    replace g0 := g0.mono hb2
    clear hb2 cA k0 k1 k2 k3
    have k0 := g0.cell (j := 0) (v := .int .u64 p) rfl; have k1 := g0.cell (j := 1) (v := .int .i64 pub) rfl; have k2 := g0.cell (j := 2) (v := .int .i64 vars) rfl; have k3 := g0.cell (j := 3) (v := .slice ra R.length rc) rfl
    cases A with
    | false =>
      have hF := hide (show S = false by rw [hs.out]; rfl)
      clear cU hs
      go_wp2
      go_ret
      exact ⟨ret_bool' hF.out.symm, hB⟩
    | true =>
      go_wp2_with fail
      refine (cU w2 (hR.mono hB) (hW.mono hB) hp3).mono ?_
      rintro e w3 ⟨i, rfl, hi, hb3⟩
      replace hB := below2 hB hb3
      clear hb3 cU k0 k1 k2 k3
      have hF := hide (show S = decide (i < 0) by rw [hs.out]; simp only [Bool.true_and, hi]; cases rowsSat p ws R <;> rfl)
      clear hs hi
      go_wp2
      go_ret
      exact ⟨ret_bool' hF.out.symm, hB⟩
end Go.Proofs.Ytlflkddgdbdebaa
