/- Circuits: Small of the reference: it answers. -/
import Derived.Test.YtlgjnidphldiiaaCircWZ
namespace Go.Proofs.Ytlgjnidphldiiaa
open Go.RowKit

/-- The loops of Small. -/
def stepT (r : Rw) (n : Int) : Int := wrap64 (wrap64 (wrap64 (n + r.a.l.length) + r.b.l.length) + r.c.l.length)
def goT : List Rw → Int → Int
  | [], n => n
  | r :: rs, n => if n ≤ 400 then goT rs (stepT r n) else n
def smT (R : List Rw) : Bool := decide (goT R R.length ≤ 400)
def stepH (r : Hn) (n : Int) : Int := wrap64 (wrap64 (n + r.a.l.length) + r.b.l.length)
def goH : List Hn → Int → Int
  | [], n => n
  | r :: rs, n => if n ≤ 300 then goH rs (stepH r n) else n
def smC (R : List Rw) (H : List Hn) : Bool := decide (goH H H.length ≤ 300) && smT R
theorem drop_getD' {α : Type} (xs : List α) (d : α) {k : Nat} (h : k < xs.length) : xs.drop k = xs.getD k d :: xs.drop (k + 1) := by
  rw [List.drop_eq_getElem_cons h, List.getD_eq_getElem?_getD, List.getElem?_eq_getElem h]
  rfl
theorem goT_next {R : List Rw} {k : Nat} {n : Int} (h : k < R.length) (hn : n ≤ 400) : goT (R.drop k) n = goT (R.drop (k + 1)) (stepT (R.getD k default) n) := by
  rw [drop_getD' R default h, goT, if_pos hn]
theorem goT_stop {R : List Rw} {n : Int} (hn : ¬ n ≤ 400) : goT R n = n := by
  cases R with
  | nil => rfl
  | cons r rs => rw [goT, if_neg hn]
theorem goT_end {R : List Rw} {n : Int} : goT (R.drop R.length) n = n := by rw [List.drop_length]; rfl
theorem goH_next {R : List Hn} {k : Nat} {n : Int} (h : k < R.length) (hn : n ≤ 300) : goH (R.drop k) n = goH (R.drop (k + 1)) (stepH (R.getD k default) n) := by
  rw [drop_getD' R default h, goH, if_pos hn]
theorem goH_stop {R : List Hn} {n : Int} (hn : ¬ n ≤ 300) : goH R n = n := by
  cases R with
  | nil => rfl
  | cons r rs => rw [goH, if_neg hn]
theorem goH_end {R : List Hn} {n : Int} : goH (R.drop R.length) n = n := by rw [List.drop_length]; rfl

set_option maxHeartbeats 1600000 in
theorem tSmall_any (p pub vars : Int) (ra : Option Addr) (R : List Rw) (rc : Nat) (w : World) (hR : RowsP w ra rc R) :
    Calls Try.prog 58 #[.agg #[.int .u64 p, .int .i64 pub, .int .i64 vars, .slice ra R.length rc]] w fun e w' => e = .returned (.bool (smT R)) ∧ Below w.heap.size w w' := by
  have hle := hide (rows_len hR)
  obtain ⟨G, hG⟩ : ∃ G, G = goT R R.length := ⟨_, rfl⟩
  have hsm : smT R = decide (G ≤ 400) := by rw [hG]; rfl
  replace hG := hide hG
  replace hsm := hide hsm
  go_enter Try.func58, Try.ntmps58
  go_wp2_with fail
  refine name_world fun W hW => ?_
  have g0 : Blk W w.heap.size #[.int .u64 p, .int .i64 pub, .int .i64 vars, .slice ra R.length rc] 34 := by rw [hW]; exact Blk.newAt rfl
  have hB : Below w.heap.size w W := by rw [hW]; exact (Below.refl _ _).alloc (Nat.le_refl _) _
  clear hW
  replace hR := hR.mono hB
  have k0 := g0.cell (j := 0) (v := .int .u64 p) rfl; have k1 := g0.cell (j := 1) (v := .int .i64 pub) rfl; have k2 := g0.cell (j := 2) (v := .int .i64 vars) rfl; have k3 := g0.cell (j := 3) (v := .slice ra R.length rc) rfl
  go_wp2
  go_loopw [3, 4] (fun t3 t4 wr => ∃ (k : Nat) (n : Int), k ≤ R.length ∧ t3 = .int .i64 n ∧ t4 = .int .i64 k ∧ Below W.heap.size W wr ∧ Hid (goT (R.drop k) n = G)) (fun _ t4 _ => R.length - (intOf t4).toNat)
  case atStart => exact ⟨0, _, Nat.zero_le _, rfl, rfl, Below.refl _ _, hide hG.out.symm⟩
  case round =>
    obtain ⟨k, n, hk, rfl, rfl, hb, hgo⟩ := hrel
    clear k0 k1 k2 k3
    have gr := g0.mono hb
    have k0 := gr.cell (j := 0) (v := .int .u64 p) rfl; have k1 := gr.cell (j := 1) (v := .int .i64 pub) rfl; have k2 := gr.cell (j := 2) (v := .int .i64 vars) rfl; have k3 := gr.cell (j := 3) (v := .slice ra R.length rc) rfl
    by_cases hlt : k < R.length
    · have hlt' : (k : Int) < R.length := by omega
      by_cases hn : n ≤ 400
      · have hR' := hR.mono hb
        have hnx := hide (hgo.out.symm.trans (goT_next hlt hn))
        have m0 := cell_later' (gr.cell (j := 0) (v := .int .u64 p) rfl); have m1 := cell_later' (gr.cell (j := 1) (v := .int .i64 pub) rfl); have m2 := cell_later' (gr.cell (j := 2) (v := .int .i64 vars) rfl); have m3 := cell_later' (gr.cell (j := 3) (v := .slice ra R.length rc) rfl)
        obtain ⟨b, off, rfl, _, hc⟩ := hR'.s (by omega)
        obtain ⟨hc0, hc1, hc2⟩ := hc k hlt
        clear hc hR' hR
        generalize R.getD k default = r at *
        have hstp : stepT r n = wrap64 (wrap64 (wrap64 (n + r.a.l.length) + r.b.l.length) + r.c.l.length) := rfl
        generalize stepT r n = n' at *
        obtain ⟨x, y, z⟩ := r
        simp only at hc0 hc1 hc2 hstp
        replace hc0 := cell_later' hc0
        replace hc1 := cell_later' hc1
        replace hc2 := cell_later' hc2
        generalize x.l.length = lx at *
        generalize y.l.length = ly at *
        generalize z.l.length = lz at *
        replace hstp := hide hstp
        go_wp2_with fail
        refine wp_region_later Try.mixed (by kernel_rfl) ?_
        repeat (first | go_big_quiet_step (first | fail) | quiet_step (first | fail))
        refine wpQuiet_nil ?_
        intro w3 hb3
        replace hb3 := below_of_later hb3
        go_wp2
        go_roundw
        case rel => exact ⟨k + 1, n', by omega, by rw [hstp.out], rel_succ hlt hle.out, below2 hb hb3, hide hnx.out.symm⟩
        case measure => exact meas_succ hlt hle.out
      · have hG2 := hide (hgo.out.symm.trans (goT_stop hn))
        have hF := hide (show smT R = false by rw [hsm.out, hG2.out]; exact decide_eq_false hn)
        go_wp2
        go_ret
        exact ⟨ret_bool' hF.out.symm, below2 hB hb⟩
    · obtain rfl : k = R.length := by omega
      have hG2 := hide (hgo.out.symm.trans goT_end)
      have hF := hide (show smT R = decide (n ≤ 400) by rw [hsm.out, hG2.out])
      clear hgo
      go_wp2
      go_ret
      exact ⟨ret_bool' hF.out.symm, below2 hB hb⟩

end Go.Proofs.Ytlgjnidphldiiaa
