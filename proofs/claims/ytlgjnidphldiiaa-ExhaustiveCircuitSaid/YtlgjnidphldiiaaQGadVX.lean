/- Gadgets: Right of the reference. -/
import Derived.Test.YtlgjnidphldiiaaQGadAC
import Derived.Test.YtlgjnidphldiiaaQCircV
import Derived.Test.YtlgjnidphldiiaaQGm
import Derived.Test.YtlgjnidphldiiaaQGadS
import Derived.Test.YtlgjnidphldiiaaQGadQR
import Derived.Test.YtlgjnidphldiiaaQCircEK
namespace Go.Proofs.Ytlgjnidphldiiaa
open Go.RowKit

end Go.Proofs.Ytlgjnidphldiiaa

/- Gadgets: scripts: Right and Width; what the reference finds of a circuit: bounded, Satisfied. -/
namespace Go.Proofs.Ytlgjnidphldiiaa
open Go.RowKit

set_option maxRecDepth 10000 in
set_option maxHeartbeats 4000000 in
theorem sRight_any (p pub sec : Int) (la : Option Addr) (n lc : Nat) (m : Int) (w : World) :
    Calls Try.prog 39 #[.agg #[.int .u64 p, .int .u8 pub, .int .u8 sec, .slice la n lc], .int .i64 m] w fun e w' => e = .returned (.bool (vld p && decide (pub ≤ 4) && decide (sec ≤ 4) && decide ((n : Int) ≤ m))) ∧ Below w.heap.size w w' := by
  have cV := fun W => rValid_any p W
  generalize vld p = v at *
  go_enter Try.func39, Try.ntmps39
  go_wp2_with fail
  refine name_calls fun w1 hN => ?_
  have g1 : Blk w1 w.heap.size #[.int .u64 p, .int .u8 pub, .int .u8 sec, .slice la n lc] 66 := by rw [hN]; exact Blk.newAt rfl
  have hb1 : Below w.heap.size w w1 := by rw [hN]; exact (Below.refl _ _).alloc (Nat.le_refl _) _
  clear hN
  refine (cV w1).mono ?_
  rintro e w2 ⟨rfl, hb2⟩
  replace g1 := g1.mono hb2
  replace hb1 := below2 hb1 hb2
  have k1 := g1.cell (j := 1) (v := .int .u8 pub) rfl
  have k2 := g1.cell (j := 2) (v := .int .u8 sec) rfl
  have k3 := g1.cell (j := 3) (v := .slice la n lc) rfl
  clear cV hb2
  cases v with
  | false =>
    go_wp2
    go_ret
    exact ⟨rfl, hb1⟩
  | true =>
    by_cases h1 : pub ≤ 4
    · by_cases h2 : sec ≤ 4
      · go_wp2
        go_ret
        exact ⟨by simp [h1, h2], hb1⟩
      · go_wp2
        go_ret
        exact ⟨by simp; omega, hb1⟩
    · go_wp2
      go_ret
      exact ⟨by simp; omega, hb1⟩

/-- The number of bits that a script's operation has at most. -/
def wid (p : Int) : Int := if p = 17 then 3 else if p = 97 then 5 else 6
theorem wid_bd {p : Int} (hv : vld p = true) : 1 ≤ wid p ∧ wid p ≤ 6 ∧ (2 : Int) ^ ((wid p).toNat + 1) < p := by
  rcases vld_cases hv with rfl | rfl | rfl | rfl | rfl | rfl | rfl <;> decide
theorem wid_step {p : Int} (hv : vld p = true) {k : Int} (h : 1 ≤ k) (h6 : k < 6) : (2 : Int) ^ ((k + 2).toNat) < p ↔ k < wid p := by
  have : k = 1 ∨ k = 2 ∨ k = 3 ∨ k = 4 ∨ k = 5 := by omega
  rcases vld_cases hv with rfl | rfl | rfl | rfl | rfl | rfl | rfl <;> rcases this with rfl | rfl | rfl | rfl | rfl <;> decide

set_option maxRecDepth 10000 in
set_option maxHeartbeats 8000000 in
theorem sWidth_any (p pub sec : Int) (la : Option Addr) (n lc : Nat) (m : Int) (w : World) (hv : vld p = true) (hm : 0 ≤ m ∧ m < 256) :
    Calls Try.prog 42 #[.agg #[.int .u64 p, .int .u8 pub, .int .u8 sec, .slice la n lc], .int .u8 m] w fun e w' => e = .returned (.int .i64 (m % (wid p + 1))) ∧ Below w.heap.size w w' := by
  have d1 := (wid_bd hv).1
  have d6 := (wid_bd hv).2.1
  have hst := fun k (h1 : 1 ≤ k) (h6 : k < 6) => wid_step hv (k := k) h1 h6
  generalize wid p = d at *
  replace hst := hide hst
  have hp := vld_pos hv
  clear hv
  go_enter Try.func42, Try.ntmps42
  go_wp2_with fail
  have g1 : Blk (w.alloc (.cells #[.int .u64 p, .int .u8 pub, .int .u8 sec, .slice la n lc] 66)) w.heap.size #[.int .u64 p, .int .u8 pub, .int .u8 sec, .slice la n lc] 66 := Blk.newAt rfl
  have hb1 : Below w.heap.size w (w.alloc (.cells #[.int .u64 p, .int .u8 pub, .int .u8 sec, .slice la n lc] 66)) := (Below.refl _ _).alloc (Nat.le_refl _) _
  generalize w.alloc (.cells #[.int .u64 p, .int .u8 pub, .int .u8 sec, .slice la n lc] 66) = w1 at *
  go_loopw [5] (fun t5 wr => ∃ k : Int, 1 ≤ k ∧ k ≤ d ∧ t5 = .int .i64 k ∧ Below w1.heap.size w1 wr) (fun t5 _ => 6 - (intOf t5).toNat)
  case atStart => exact ⟨1, by omega, d1, rfl, Below.refl _ _⟩
  case round =>
    obtain ⟨k, k1, kd, rfl, hb⟩ := hrel
    have gr := g1.mono hb
    have c0 := cell_later' (gr.cell (j := 0) (v := .int .u64 p) rfl)
    by_cases h6 : k < 6
    · have hs := hide (hst.out k k1 h6)
      have h2p : (2 : Int) ^ ((k + 2).toNat) < 18446744073709551616 ∧ 0 < (2 : Int) ^ ((k + 2).toNat) := by
        have : k = 1 ∨ k = 2 ∨ k = 3 ∨ k = 4 ∨ k = 5 := by omega
        rcases this with rfl | rfl | rfl | rfl | rfl <;> decide
      have hw : IntKind.u64.wrap (2 ^ ((k + 2).toNat)) = 2 ^ ((k + 2).toNat) := by rw [IntKind.wrap_u64]; omega
      by_cases hlt : k < d
      · have hq : IntKind.u64.wrap (2 ^ ((k + 2).toNat)) < p := by rw [hw]; exact hs.out.2 hlt
        clear hw h2p hs
        go_wp2_with fail
        refine wp_region_later Try.mixed (by kernel_rfl) ?_
        repeat (first | go_big_quiet_step (first | fail) | quiet_step (first | fail))
        refine wpQuiet_nil ?_
        intro w3 hb3
        replace hb3 := below_of_later hb3
        replace hb := below2 hb hb3
        go_wp2
        go_roundw
        case rel => exact ⟨k + 1, by omega, by omega, by go_num, hb⟩
        case measure => simp [intOf]; omega
      · have hq : p ≤ IntKind.u64.wrap (2 ^ ((k + 2).toNat)) := by
          rw [hw]
          exact Int.not_lt.1 fun h => hlt (hs.out.1 h)
        obtain rfl : k = d := by omega
        clear hw h2p hs
        go_wp2_with fail
        refine wp_region_later Try.mixed (by kernel_rfl) ?_
        repeat (first | go_big_quiet_step (first | fail) | quiet_step (first | fail))
        refine wpQuiet_nil ?_
        intro w3 hb3
        replace hb3 := below_of_later hb3
        go_wp2
        go_ret
        exact ⟨rfl, below2 hb1 (below2 hb hb3)⟩
    · obtain rfl : k = 6 := by omega
      obtain rfl : d = 6 := by omega
      go_wp2_with fail
      refine wp_region_later Try.mixed (by kernel_rfl) ?_
      repeat (first | go_big_quiet_step (first | fail) | quiet_step (first | fail))
      refine wpQuiet_nil ?_
      intro w3 hb3
      replace hb3 := below_of_later hb3
      go_wp2
      go_ret
      exact ⟨rfl, below2 hb1 (below2 hb hb3)⟩

end Go.Proofs.Ytlgjnidphldiiaa

/- Gadgets: what the reference finds of a circuit: bounded, Satisfied. -/
namespace Go.Proofs.Ytlgjnidphldiiaa
open Go.RowKit

theorem row_more {p v : Int} {r : Rw} (e : rowOk p v r = true) : linOk p v r.a.l = true ∧ linOk p v r.b.l = true ∧ linOk p v r.c.l = true := by
  unfold rowOk at e
  rw [Bool.and_eq_true, Bool.and_eq_true] at e
  exact ⟨e.1.1, e.1.2, e.2⟩

set_option maxRecDepth 10000 in
set_option maxHeartbeats 8000000 in
theorem rSat20_any (p pub vars : Int) (ra : Option Addr) (R : List Rw) (rc : Nat) (wa : Option Addr) (wc : Nat) (W0 : List Int) (w : World)
    (hR : RowsP w ra rc R) (hW : Sl w .u64 wa W0) (hA : AllW W0) (hT : tblOk p pub vars R = true) (hl : (W0.length : Int) = vars) :
    Calls Try.prog 36 #[.agg #[.int .u64 p, .int .i64 pub, .int .i64 vars, .slice ra R.length rc], .slice wa W0.length wc] w fun e w' => e = .returned (.bool (rowsSat p W0 R)) ∧ Below w.heap.size w w' := by
  obtain ⟨_, hp0, hp1, hp2, hl16⟩ := tbl_bd hT
  have hrow := hide (of_decide_eq_true hT).2.2
  replace hl := hide hl
  clear hT
  go_enter Try.func36, Try.ntmps36
  have g0 : Blk (w.alloc (.cells #[.int .u64 p, .int .i64 pub, .int .i64 vars, .slice ra R.length rc] 34)) w.heap.size #[.int .u64 p, .int .i64 pub, .int .i64 vars, .slice ra R.length rc] 34 := Blk.newAt rfl
  have hB : Below w.heap.size w (w.alloc (.cells #[.int .u64 p, .int .i64 pub, .int .i64 vars, .slice ra R.length rc] 34)) := (Below.refl _ _).alloc (Nat.le_refl _) _
  go_wp2_with fail
  generalize w.alloc (.cells #[.int .u64 p, .int .i64 pub, .int .i64 vars, .slice ra R.length rc] 34) = w1 at *
  go_loopw [5] (fun t5 wr => ∃ k : Nat, k ≤ R.length ∧ t5 = .int .i64 k ∧ Below w1.heap.size w1 wr ∧ Hid (∀ j, j < k → rowSat p W0 (R.getD j default) = true)) (fun t5 _ => R.length - (intOf t5).toNat)
  case atStart => exact ⟨0, Nat.zero_le _, rfl, Below.refl _ _, hide fun j hj => by omega⟩
  case round =>
    obtain ⟨k, hk, rfl, hb, hU⟩ := hrel
    have gr := g0.mono hb
    have hBr := below2 hB hb
    have k3 := gr.cell (j := 3) (v := .slice ra R.length rc) rfl
    by_cases hlt : k < R.length
    · have hlt' : (k : Int) < R.length := by omega
      have hR' := hR.mono hBr
      obtain ⟨b, off, e, _, hcc⟩ := hR'.s (by omega)
      obtain ⟨hc0, hc1, hc2⟩ := hcc k hlt
      obtain ⟨hx, hy, hz⟩ := hR'.ok _ (getD_mem' hlt default)
      obtain ⟨l1, l2, l3⟩ := row_more (hrow.out k hlt)
      have hst := hide (fun h => rs_stop (p := p) (W := W0) hlt h)
      have hnx := hide (fun h : rowSat p W0 (R.getD k default) = true => fun j (hj : j < k + 1) => (by
        rcases Nat.lt_or_ge j k with h2 | h2
        · exact hU.out j h2
        · have : j = k := by omega
          subst this; exact h : rowSat p W0 (R.getD j default) = true))
      clear hcc hR' hU hR hrow
      generalize R.getD k default = r at *
      obtain ⟨x, y, z⟩ := r
      simp only at hc0 hc1 hc2 hx hy hz l1 l2 l3
      have hin : ∀ s : Lc, linOk p vars s.l = true → ∀ i, i < s.l.length → 0 ≤ (s.l.getD i (0, 0)).1 ∧ (s.l.getD i (0, 0)).1 < (W0.length : Int) := fun s h i hi => by
        have := (of_decide_eq_true h i hi).1
        rw [hl.out]; exact this
      have i1 := hide (hin x l1)
      have i2 := hide (hin y l2)
      have i3 := hide (hin z l3)
      clear l1 l2 l3 hin
      subst e
      have hWr := hW.mono hBr
      have hgl := gr.lt
      go_wp2_with fail
      refine name_world fun W2 hW2 => ?_
      have g2 : Blk W2 wr.heap.size #[.slice x.ad x.l.length x.cap, .slice y.ad y.l.length y.cap, .slice z.ad z.l.length z.cap] 106 := by rw [hW2]; exact Blk.newAt rfl
      have hb2 : Below wr.heap.size wr W2 := by rw [hW2]; exact (Below.refl _ _).alloc (Nat.le_refl _) _
      clear hW2 hc0 hc1 hc2
      have gr2 := gr.mono hb2
      have r0 := cell_later' (g2.cell (j := 0) (v := .slice x.ad x.l.length x.cap) rfl)
      have r1 := cell_later' (g2.cell (j := 1) (v := .slice y.ad y.l.length y.cap) rfl)
      have r2 := cell_later' (g2.cell (j := 2) (v := .slice z.ad z.l.length z.cap) rfl)
      have k0 := cell_later' (gr2.cell (j := 0) (v := .int .u64 p) rfl)
      have cx := fun P => rValue20_any p x wa wc W0 (later W2 P) ((hx.mono hb2).mono (below_later _ _)) ((hWr.mono hb2).mono (below_later _ _)) hA i1.out
      have cy := fun P => rValue20_any p y wa wc W0 (later W2 P) ((hy.mono hb2).mono (below_later _ _)) ((hWr.mono hb2).mono (below_later _ _)) hA i2.out
      have cz := fun P => rValue20_any p z wa wc W0 (later W2 P) ((hz.mono hb2).mono (below_later _ _)) ((hWr.mono hb2).mono (below_later _ _)) hA i3.out
      have hbx := lval_bd p W0 x.l
      have hby := lval_bd p W0 y.l
      have hbz := lval_bd p W0 z.l
      have hrs : rowSat p W0 ⟨x, y, z⟩ = (fmul p (lval p W0 x.l) (lval p W0 y.l) == lval p W0 z.l) := rfl
      generalize rowSat p W0 ⟨x, y, z⟩ = q at *
      generalize lval p W0 x.l = vx at *
      generalize lval p W0 y.l = vy at *
      generalize lval p W0 z.l = vz at *
      have cm := fun P => rMul_any p vx vy (later W2 P) (by omega) (by omega) (by omega) (by omega)
      generalize fmul p vx vy = vm at *
      cases q with
      | false =>
        have hF := hide (hst.out rfl)
        have hne : (vm != vz) = true := by rw [bne, ← hrs]; rfl
        replace hrs := hide hrs
        clear hst hnx hx hy hz hW hWr hA k3
        go_wp2_with fail
        refine wp_region_later Try.mixed (by kernel_rfl) ?_
        repeat (first | go_big_quiet_step (first | (go_at_call_of 37 (Lc.l x); exact Calls.later_of (cx _)) | (go_at_call_of 37 (Lc.l y); exact Calls.later_of (cy _)) | (go_at_call_of 37 (Lc.l z); exact Calls.later_of (cz _)) | (go_at_call 78; exact Calls.later_of (cm _))) | quiet_step (first | (go_at_call_of 37 (Lc.l x); exact Calls.later_of (cx _)) | (go_at_call_of 37 (Lc.l y); exact Calls.later_of (cy _)) | (go_at_call_of 37 (Lc.l z); exact Calls.later_of (cz _)) | (go_at_call 78; exact Calls.later_of (cm _))))
        refine wpQuiet_nil ?_
        intro w3 hb3
        replace hb3 := below_of_later hb3
        go_wp2
        go_ret
        exact ⟨ret_bool' hF.out.symm, below2 hBr (below2 hb2 hb3)⟩
      | true =>
        have hN := hide (hnx.out rfl)
        have hne : (vm != vz) = false := by rw [bne, ← hrs]; rfl
        replace hrs := hide hrs
        clear hst hnx hx hy hz hW hWr hA k3
        go_wp2_with fail
        refine wp_region_later Try.mixed (by kernel_rfl) ?_
        repeat (first | go_big_quiet_step (first | (go_at_call_of 37 (Lc.l x); exact Calls.later_of (cx _)) | (go_at_call_of 37 (Lc.l y); exact Calls.later_of (cy _)) | (go_at_call_of 37 (Lc.l z); exact Calls.later_of (cz _)) | (go_at_call 78; exact Calls.later_of (cm _))) | quiet_step (first | (go_at_call_of 37 (Lc.l x); exact Calls.later_of (cx _)) | (go_at_call_of 37 (Lc.l y); exact Calls.later_of (cy _)) | (go_at_call_of 37 (Lc.l z); exact Calls.later_of (cz _)) | (go_at_call 78; exact Calls.later_of (cm _))))
        refine wpQuiet_nil ?_
        intro w3 hb3
        replace hb3 := below_of_later hb3
        replace hb := below2 hb (below2 hb2 hb3)
        clear cx cy cz cm r0 r1 r2 k0 hb3
        go_wp2
        go_roundw
        case rel => exact ⟨k + 1, by omega, by go_num, hb, hN⟩
        case measure => simp [intOf]; omega
    · obtain rfl : k = R.length := by omega
      have hF := hide (rs_all hU.out)
      go_wp2
      go_ret
      exact ⟨ret_bool' hF.out.symm, hBr⟩

end Go.Proofs.Ytlgjnidphldiiaa

/- Gadgets: run of a script without operations. -/
namespace Go.Proofs.Ytlgjnidphldiiaa
open Go.RowKit

/-- The combinations that a script begins with. -/
def inL (k : Nat) : List Lin := (List.range k).map fun (i : Nat) => [(1 + (i : Int), 1)]
def startL (p : Int) (k : Nat) : List Lin := [[], keepT (0, fred p 1), keepT (0, fred p 2)] ++ inL k
theorem startL_succ (p : Int) (k : Nat) : startL p (k + 1) = startL p k ++ [[(1 + (k : Int), 1)]] := by
  unfold startL inL
  rw [List.range_succ, List.map_append, List.append_assoc]
  rfl
end Go.Proofs.Ytlgjnidphldiiaa
