/- Circuits: Valid of tables, of the program and of the reference. -/
import Derived.Test.YtalmgeefkcebdaaGreatDoorQ08
namespace Go.Proofs.YtalmgeefkcebdaaGreatDoor
open Go.RowKit

set_option maxHeartbeats 1600000 in
theorem tLinear_any (p pub vars : Int) (ra : Option Addr) (R : List Rw) (rc : Nat) (s : Lc) (w : World) (hs : LcOk w s) :
    Calls Tryz.prog 78 #[.agg #[.int .u64 p, .int .i64 pub, .int .i64 vars, .slice ra R.length rc], .slice s.ad s.l.length s.cap] w fun e w' => e = .returned (.bool (linOk p vars s.l)) ∧ Below w.heap.size w w' := by
  obtain ⟨a, cap, L⟩ := s
  have hl := hs.sl
  have hw := hs.wl
  have hle := hide (lc_len hs)
  clear hs
  simp only at hl hw ⊢
  go_enter Tryz.func78, Tryz.ntmps78
  go_wp2_with fail
  refine name_world fun W hW => ?_
  have g0 : Blk W w.heap.size #[.int .u64 p, .int .i64 pub, .int .i64 vars, .slice ra R.length rc] 44 := by rw [hW]; exact Blk.newAt rfl
  have hB0 : Below w.heap.size w W := by rw [hW]; exact (Below.refl _ _).alloc (Nat.le_refl _) _
  clear hW
  replace hl := hl.mono hB0
  go_wp2
  go_loopw [10, 5] (fun t10 t5 wr => ∃ (k : Nat) (lst : Int), k ≤ L.length ∧ t10 = .int .i64 k ∧ t5 = .int .i64 lst ∧ Below W.heap.size W wr ∧ LinUpTo p vars L k lst) (fun t10 _ _ => L.length - (intOf t10).toNat)
  case atStart => exact ⟨0, -1, Nat.zero_le _, rfl, rfl, Below.refl _ _, .zero _ _ _⟩
  case round =>
    obtain ⟨k, lst, hk, rfl, rfl, hB, hU⟩ := hrel
    by_cases hlt : k < L.length
    · have hlt' : (k : Int) < L.length := by omega
      obtain ⟨b, off, rfl, _, hc0, hc1⟩ := (hl.mono hB).get hlt
      have hW := hw.get hlt
      have hst := hide (fun h => linOk_stop (p := p) (n := vars) hlt h)
      have hat := hide hU.at_
      have hnx := hide (fun h => hU.next h)
      generalize L.getD k (0, 0) = t at *
      obtain ⟨v, c⟩ := t
      simp only at hc0 hc1 hW hat hnx
      have hBa := hB.alloc hB.size (.cells #[.int .i64 v, .int .u64 c] 131)
      have g1 := g0.mono hBa
      have k0 := g1.cell (j := 0) (v := .int .u64 p) rfl; have k1 := g1.cell (j := 1) (v := .int .i64 pub) rfl; have k2 := g1.cell (j := 2) (v := .int .i64 vars) rfl; have k3 := g1.cell (j := 3) (v := .slice ra R.length rc) rfl
      clear hU hl hw
      by_cases h1 : v ≤ lst
      · have hR := hide (hst.out fun h => by have := (hat.out.1 h).1; omega)
        clear hst hat hnx
        go_wp2
        go_ret
        exact ⟨ret_bool' hR.out.symm, below2 hB0 hBa⟩
      by_cases h2 : vars ≤ v
      · have hR := hide (hst.out fun h => by have := (hat.out.1 h).2.1; omega)
        clear hst hat hnx
        go_wp2
        go_ret
        exact ⟨ret_bool' hR.out.symm, below2 hB0 hBa⟩
      by_cases h3 : c = 0
      · have hR := hide (hst.out fun h => (hat.out.1 h).2.2.1 h3)
        have h3' : (c == 0) = true := by simp [h3]
        replace h3 := hide h3
        clear hst hat hnx
        go_wp2
        go_ret
        exact ⟨ret_bool' hR.out.symm, below2 hB0 hBa⟩
      have h3' : (c == 0) = false := by simpa using h3
      by_cases h4 : p ≤ c
      · have hR := hide (hst.out fun h => by have := (hat.out.1 h).2.2.2; omega)
        clear hst hat hnx
        go_wp2
        go_ret
        exact ⟨ret_bool' hR.out.symm, below2 hB0 hBa⟩
      have hN := hide (hnx.out (hat.out.2 ⟨by omega, by omega, h3, by omega⟩))
      clear hst hat hnx
      go_wp2
      go_roundw
      case rel => exact ⟨k + 1, v, by omega, rel_succ hlt hle.out, rfl, hBa, hN.out⟩
      case measure => exact meas_succ hlt hle.out
    · obtain rfl : k = L.length := by omega
      have hR := hide hU.all
      clear hU
      go_wp2
      go_ret
      exact ⟨ret_bool' hR.out.symm, below2 hB0 hB⟩


set_option maxHeartbeats 1600000 in
theorem tRow_any (p pub vars : Int) (ra : Option Addr) (R : List Rw) (rc : Nat) (x y z : Lc) (w : World) (hx : LcOk w x) (hy : LcOk w y) (hz : LcOk w z) :
    Calls Tryz.prog 34 #[.agg #[.int .u64 p, .int .i64 pub, .int .i64 vars, .slice ra R.length rc], .agg #[.slice x.ad x.l.length x.cap, .slice y.ad y.l.length y.cap, .slice z.ad z.l.length z.cap]] w fun e w' => e = .returned (.bool (linOk p vars x.l && linOk p vars y.l && linOk p vars z.l)) ∧ Below w.heap.size w w' := by
  have c1 := fun W h => tLinear_any p pub vars ra R rc x W h
  have c2 := fun W h => tLinear_any p pub vars ra R rc y W h
  have c3 := fun W h => tLinear_any p pub vars ra R rc z W h
  generalize linOk p vars x.l = b1 at *
  generalize linOk p vars y.l = b2 at *
  generalize linOk p vars z.l = b3 at *
  go_enter Tryz.func34, Tryz.ntmps34
  go_wp2_with fail
  refine name_calls fun W hW => ?_
  have g0 : Blk W w.heap.size #[.int .u64 p, .int .i64 pub, .int .i64 vars, .slice ra R.length rc] 44 := by rw [hW]; exact (Blk.newAt rfl).alloc _
  have g1 : Blk W (w.heap.size + 1) #[.slice x.ad x.l.length x.cap, .slice y.ad y.l.length y.cap, .slice z.ad z.l.length z.cap] 97 := by rw [hW]; exact Blk.newAt (by simp)
  have hB : Below w.heap.size w W := by rw [hW]; exact ((Below.refl _ _).alloc (Nat.le_refl _) _).alloc (by simp) _
  clear hW
  refine (c1 W (hx.mono hB)).mono ?_
  rintro e w1 ⟨rfl, hb1⟩
  replace hB := below2 hB hb1
  replace g0 := g0.mono hb1
  replace g1 := g1.mono hb1
  clear hb1 c1
  have k0 := g0.cell (j := 0) (v := .int .u64 p) rfl; have k1 := g0.cell (j := 1) (v := .int .i64 pub) rfl; have k2 := g0.cell (j := 2) (v := .int .i64 vars) rfl; have k3 := g0.cell (j := 3) (v := .slice ra R.length rc) rfl
  have r1 := g1.cell (j := 1) (v := .slice y.ad y.l.length y.cap) rfl
  have r2 := g1.cell (j := 2) (v := .slice z.ad z.l.length z.cap) rfl
  cases b1 with
  | false =>
    clear c2 c3
    go_wp2
    go_ret
    exact ⟨rfl, hB⟩
  | true =>
    go_wp2_with fail
    refine (c2 w1 (hy.mono hB)).mono ?_
    rintro e w2 ⟨rfl, hb2⟩
    replace hB := below2 hB hb2
    replace g0 := g0.mono hb2
    replace g1 := g1.mono hb2
    clear hb2 c2 k0 k1 k2 k3 r1 r2
    have k0 := g0.cell (j := 0) (v := .int .u64 p) rfl; have k1 := g0.cell (j := 1) (v := .int .i64 pub) rfl; have k2 := g0.cell (j := 2) (v := .int .i64 vars) rfl; have k3 := g0.cell (j := 3) (v := .slice ra R.length rc) rfl
    have r2 := g1.cell (j := 2) (v := .slice z.ad z.l.length z.cap) rfl
    cases b2 with
    | false =>
      clear c3
      go_wp2
      go_ret
      exact ⟨rfl, hB⟩
    | true =>
      go_wp2_with fail
      refine (c3 w2 (hz.mono hB)).mono ?_
      rintro e w3 ⟨rfl, hb3⟩
      replace hB := below2 hB hb3
      clear hb3 c3 k0 k1 k2 k3 r2 g0 g1
      go_wp2
      go_ret
      exact ⟨by simp, hB⟩

def sizesOk (p pub vars : Int) : Bool := decide (vld p = true ∧ 0 ≤ pub ∧ pub < vars ∧ vars ≤ 65536)

set_option maxHeartbeats 1600000 in
theorem tSizes_any (p pub vars : Int) (ra : Option Addr) (R : List Rw) (rc : Nat) (w : World) :
    Calls Tryz.prog 33 #[.agg #[.int .u64 p, .int .i64 pub, .int .i64 vars, .slice ra R.length rc]] w fun e w' => e = .returned (.bool (sizesOk p pub vars)) ∧ Below w.heap.size w w' := by
  have cV := fun W => valid_any p W
  obtain ⟨V, hV⟩ : ∃ V, V = vld p := ⟨_, rfl⟩
  rw [← hV] at cV
  replace hV := hide hV
  go_enter Tryz.func33, Tryz.ntmps33
  go_wp2_with fail
  refine name_calls fun W hW => ?_
  have g0 : Blk W w.heap.size #[.int .u64 p, .int .i64 pub, .int .i64 vars, .slice ra R.length rc] 44 := by rw [hW]; exact Blk.newAt rfl
  have hB : Below w.heap.size w W := by rw [hW]; exact (Below.refl _ _).alloc (Nat.le_refl _) _
  clear hW
  refine (cV W).mono ?_
  rintro e w1 ⟨rfl, hb1⟩
  replace hB := below2 hB hb1
  replace g0 := g0.mono hb1
  clear hb1 cV
  have k0 := g0.cell (j := 0) (v := .int .u64 p) rfl; have k1 := g0.cell (j := 1) (v := .int .i64 pub) rfl; have k2 := g0.cell (j := 2) (v := .int .i64 vars) rfl; have k3 := g0.cell (j := 3) (v := .slice ra R.length rc) rfl
  cases V with
  | false =>
    go_wp2
    go_ret
    exact ⟨ret_bool' (by unfold sizesOk; rw [← hV.out]; simp), hB⟩
  | true =>
    by_cases h1 : 0 ≤ pub
    · by_cases h2 : pub < vars
      · go_wp2
        go_ret
        exact ⟨ret_bool' (by unfold sizesOk; rw [← hV.out]; simp [h1, h2]), hB⟩
      · go_wp2
        go_ret
        exact ⟨ret_bool' (decide_eq_false fun hh => by have := hh.2.2.1; omega).symm, hB⟩
    · go_wp2
      go_ret
      exact ⟨ret_bool' (decide_eq_false fun hh => by have := hh.2.1; omega).symm, hB⟩

theorem hints_len {w : World} {ra : Option Addr} {rc : Nat} {R : List Hn} (h : HintsP w ra rc R) : R.length ≤ 9223372036854775807 := by
  have h1 := h.le
  have h2 := h.mx
  simp only [maxLen] at h2
  omega
theorem tbl_stop {p pub vars : Int} {R : List Rw} {k : Nat} (hk : k < R.length) (h : rowOk p vars (R.getD k default) = false) : tblOk p pub vars R = false := by
  unfold tblOk
  exact decide_eq_false fun hh => by have := hh.2.2 k hk; rw [h] at this; cases this
theorem tbl_all {p pub vars : Int} {R : List Rw} (hs : sizesOk p pub vars = true) (hl : R.length ≤ 16384) (h : ∀ k, k < R.length → rowOk p vars (R.getD k default) = true) : tblOk p pub vars R = true := by
  unfold tblOk
  exact decide_eq_true ⟨of_decide_eq_true hs, hl, h⟩
theorem tbl_sizes {p pub vars : Int} {R : List Rw} (h : sizesOk p pub vars = false) : tblOk p pub vars R = false := by
  unfold tblOk
  exact decide_eq_false fun hh => of_decide_eq_false h hh.1
theorem tbl_len {p pub vars : Int} {R : List Rw} (h : ¬ R.length ≤ 16384) : tblOk p pub vars R = false := by
  unfold tblOk
  exact decide_eq_false fun hh => h hh.2.1

set_option maxHeartbeats 1600000 in
theorem tValid_any (p pub vars : Int) (ra : Option Addr) (R : List Rw) (rc : Nat) (w : World) (hR : RowsP w ra rc R) :
    Calls Tryz.prog 11 #[.agg #[.int .u64 p, .int .i64 pub, .int .i64 vars, .slice ra R.length rc]] w fun e w' => e = .returned (.bool (tblOk p pub vars R)) ∧ Below w.heap.size w w' := by
  have cS := fun W => tSizes_any p pub vars ra R rc W
  obtain ⟨S, hS⟩ : ∃ S, S = sizesOk p pub vars := ⟨_, rfl⟩
  rw [← hS] at cS
  replace hS := hide hS
  go_enter Tryz.func11, Tryz.ntmps11
  go_wp2_with fail
  refine name_calls fun W hW => ?_
  have g0 : Blk W w.heap.size #[.int .u64 p, .int .i64 pub, .int .i64 vars, .slice ra R.length rc] 44 := by rw [hW]; exact Blk.newAt rfl
  have hB : Below w.heap.size w W := by rw [hW]; exact (Below.refl _ _).alloc (Nat.le_refl _) _
  clear hW
  refine (cS W).mono ?_
  rintro e w1 ⟨rfl, hb1⟩
  replace hB := below2 hB hb1
  replace g0 := g0.mono hb1
  clear hb1 cS
  have k0 := g0.cell (j := 0) (v := .int .u64 p) rfl; have k1 := g0.cell (j := 1) (v := .int .i64 pub) rfl; have k2 := g0.cell (j := 2) (v := .int .i64 vars) rfl; have k3 := g0.cell (j := 3) (v := .slice ra R.length rc) rfl
  cases S with
  | false =>
    have hF := hide (tbl_sizes (R := R) hS.out.symm)
    go_wp2
    go_ret
    exact ⟨ret_bool' hF.out.symm, hB⟩
  | true =>
    by_cases hl : R.length ≤ 16384
    · have hl' : (R.length : Int) ≤ 16384 := by omega
      replace hR := hR.mono hB
      go_wp2_with fail
      go_loopw [17] (fun t17 wr => ∃ k : Nat, k ≤ R.length ∧ t17 = .int .i64 k ∧ Below w1.heap.size w1 wr ∧ Hid (∀ j, j < k → rowOk p vars (R.getD j default) = true)) (fun t17 _ => R.length - (intOf t17).toNat)
      case atStart => exact ⟨0, Nat.zero_le _, rfl, Below.refl _ _, hide fun j hj => by omega⟩
      case round =>
        obtain ⟨k, hk, rfl, hb, hU⟩ := hrel
        clear k0 k1 k2 k3
        by_cases hlt : k < R.length
        · have hlt' : (k : Int) < R.length := by omega
          have hR' := hR.mono hb
          have gr := g0.mono hb
          have k0 := gr.cell (j := 0) (v := .int .u64 p) rfl; have k1 := gr.cell (j := 1) (v := .int .i64 pub) rfl; have k2 := gr.cell (j := 2) (v := .int .i64 vars) rfl; have k3 := gr.cell (j := 3) (v := .slice ra R.length rc) rfl
          have hgl := gr.lt
          obtain ⟨b, off, rfl, _, hc⟩ := hR'.s (by omega)
          obtain ⟨hc0, hc1, hc2⟩ := hc k hlt
          obtain ⟨hx, hy, hz⟩ := hR'.ok _ (getD_mem' hlt default)
          have hst := hide (fun h => tbl_stop (p := p) (pub := pub) (vars := vars) hlt h)
          have hnx := hide (fun h : rowOk p vars (R.getD k default) = true => fun j (hj : j < k + 1) => (by
            rcases Nat.lt_or_ge j k with h2 | h2
            · exact hU.out j h2
            · have : j = k := by omega
              subst this; exact h : rowOk p vars (R.getD j default) = true))
          clear hc hR' hU hR
          generalize R.getD k default = r at *
          obtain ⟨x, y, z⟩ := r
          simp only at hc0 hc1 hc2 hx hy hz
          have cR := fun W h1 h2 h3 => tRow_any p pub vars (some ⟨b, off, none⟩) R rc x y z W h1 h2 h3
          have hro : rowOk p vars ⟨x, y, z⟩ = (linOk p vars x.l && linOk p vars y.l && linOk p vars z.l) := rfl
          rw [← hro] at cR
          clear hro
          generalize rowOk p vars ⟨x, y, z⟩ = q at *
          go_wp2_with fail
          refine name_calls fun W2 hW2 => ?_
          have hb2 : Below wr.heap.size wr W2 := by rw [hW2]; exact (Below.refl _ _).alloc (Nat.le_refl _) _
          clear hW2
          refine (cR W2 (hx.mono hb2) (hy.mono hb2) (hz.mono hb2)).mono ?_
          rintro e w3 ⟨rfl, hb3⟩
          replace hb := below2 hb (below2 hb2 hb3)
          clear hb2 hb3 cR hx hy hz hc0 hc1 hc2 k0 k1 k2 k3 gr
          cases q with
          | false =>
            have hF := hide (hst.out rfl)
            go_wp2
            go_ret
            exact ⟨ret_bool' hF.out.symm, below2 hB hb⟩
          | true =>
            have hN := hide (hnx.out rfl)
            clear hst hnx
            go_wp2
            go_roundw
            case rel => exact ⟨k + 1, by omega, by go_num, hb, hN⟩
            case measure => simp [intOf]; omega
        · obtain rfl : k = R.length := by omega
          have hF := hide (tbl_all hS.out.symm hl hU.out)
          go_wp2
          go_ret
          exact ⟨ret_bool' hF.out.symm, below2 hB hb⟩
    · have hl' : (16384 : Int) < R.length := by omega
      have hF := hide (tbl_len (p := p) (pub := pub) (vars := vars) hl)
      clear hR hl
      go_wp2
      go_ret
      exact ⟨ret_bool' hF.out.symm, hB⟩

theorem hint_no {p v : Int} {h : Hn} (e : linOk p v h.a.l = false) : hintOk p v h = false := by unfold hintOk; rw [e]; rfl
theorem hint1 {p v : Int} {h : Hn} (e : linOk p v h.a.l = true) (k : h.k = 1) : hintOk p v h = (linOk p v h.b.l && decide (h.bit = 0)) := by unfold hintOk; rw [e, if_pos k]; rfl
theorem hint2 {p v : Int} {h : Hn} (e : linOk p v h.a.l = true) (k : h.k = 2) : hintOk p v h = (decide (h.b.l.length = 0) && decide (h.bit = 0)) := by unfold hintOk; rw [e, if_neg (by omega), if_pos k]; rfl
theorem hint3 {p v : Int} {h : Hn} (e : linOk p v h.a.l = true) (k : h.k = 3) : hintOk p v h = (decide (h.b.l.length = 0) && decide (0 ≤ h.bit ∧ h.bit ≤ 63)) := by unfold hintOk; rw [e, if_neg (by omega), if_neg (by omega), if_pos k]; rfl
theorem hint4 {p v : Int} {h : Hn} (k1 : h.k ≠ 1) (k2 : h.k ≠ 2) (k3 : h.k ≠ 3) : hintOk p v h = false := by unfold hintOk; rw [if_neg k1, if_neg k2, if_neg k3, Bool.and_false]

set_option maxHeartbeats 1600000 in
theorem aHint_any (p v k : Int) (x y : Lc) (bit : Int) (w : World) (hx : LcOk w x) (hy : LcOk w y) :
    Calls Tryz.prog 113 #[.agg #[.int .i64 k, .slice x.ad x.l.length x.cap, .slice y.ad y.l.length y.cap, .int .i64 bit], .int .i64 v, .int .u64 p] w fun e w' => e = .returned (.bool (hintOk p v ⟨k, x, y, bit⟩)) ∧ Below w.heap.size w w' := by
  have c1 := fun W h => aLinear_any p v x W h
  have c2 := fun W h => aLinear_any p v y W h
  have r0 := hide (fun e => hint_no (h := ⟨k, x, y, bit⟩) (p := p) (v := v) e)
  have r1 := hide (fun e ek => hint1 (h := ⟨k, x, y, bit⟩) (p := p) (v := v) e ek)
  have r2 := hide (fun e ek => hint2 (h := ⟨k, x, y, bit⟩) (p := p) (v := v) e ek)
  have r3 := hide (fun e ek => hint3 (h := ⟨k, x, y, bit⟩) (p := p) (v := v) e ek)
  have r4 := hide (fun e1 e2 e3 => hint4 (h := ⟨k, x, y, bit⟩) (p := p) (v := v) e1 e2 e3)
  simp only at r0 r1 r2 r3 r4
  generalize hintOk p v ⟨k, x, y, bit⟩ = HO at *
  generalize linOk p v x.l = b1 at *
  go_enter Tryz.func113, Tryz.ntmps113
  go_wp2_with fail
  refine name_calls fun W hW => ?_
  have g0 : Blk W w.heap.size #[.int .i64 k, .slice x.ad x.l.length x.cap, .slice y.ad y.l.length y.cap, .int .i64 bit] 134 := by rw [hW]; exact Blk.newAt rfl
  have hB : Below w.heap.size w W := by rw [hW]; exact (Below.refl _ _).alloc (Nat.le_refl _) _
  clear hW
  refine (c1 W (hx.mono hB)).mono ?_
  rintro e w1 ⟨rfl, hb1⟩
  replace hB := below2 hB hb1
  replace g0 := g0.mono hb1
  replace hy := hy.mono hB
  clear hb1 c1 hx
  have k0 := g0.cell (j := 0) (v := .int .i64 k) rfl; have k2 := g0.cell (j := 2) (v := .slice y.ad y.l.length y.cap) rfl; have k3 := g0.cell (j := 3) (v := .int .i64 bit) rfl
  cases b1 with
  | false =>
    have hF := hide (r0.out rfl)
    clear r0 r1 r2 r3 r4
    go_wp2
    go_ret
    exact ⟨ret_bool' hF.out.symm, hB⟩
  | true =>
    clear r0
    by_cases e1 : k = 1
    · have hF := hide (r1.out rfl e1)
      subst e1
      clear r1 r2 r3 r4
      generalize linOk p v y.l = b2 at *
      go_wp2_with fail
      refine (c2 w1 hy).mono ?_
      rintro e w2 ⟨rfl, hb2⟩
      have j3 := cell_below hb2 k3
      clear c2 k0 k2 k3
      cases b2 with
      | false =>
        go_wp2
        go_ret
        exact ⟨ret_bool' (by rw [hF.out]; rfl), below2 hB hb2⟩
      | true =>
        by_cases hz : bit = 0
        · subst hz
          go_wp2
          go_ret
          exact ⟨ret_bool' (by rw [hF.out]; rfl), below2 hB hb2⟩
        · have hz' : (bit == 0) = false := by simpa using hz
          have hF2 := hide (show HO = false by rw [hF.out, decide_eq_false hz]; rfl)
          replace hz := hide hz
          clear hF
          go_wp2
          go_ret
          exact ⟨ret_bool' hF2.out.symm, below2 hB hb2⟩
    clear r1 c2 hy
    have e1' : (k == 1) = false := by simpa using e1
    generalize y.l.length = m at *
    by_cases e2 : k = 2
    · have hF := hide (r2.out rfl e2)
      subst e2
      clear r2 r3 r4 e1 e1'
      by_cases hm : m = 0
      · subst hm
        by_cases hz : bit = 0
        · subst hz
          go_wp2
          go_ret
          exact ⟨ret_bool' (by rw [hF.out]; rfl), hB⟩
        · have hz' : (bit == 0) = false := by simpa using hz
          have hF2 := hide (show HO = false by rw [hF.out, decide_eq_false hz]; rfl)
          replace hz := hide hz
          clear hF
          go_wp2
          go_ret
          exact ⟨ret_bool' hF2.out.symm, hB⟩
      · have hm' : ((m : Int) == 0) = false := by simp; omega
        have hF2 := hide (show HO = false by rw [hF.out, decide_eq_false hm]; rfl)
        replace hm := hide hm
        clear hF
        go_wp2
        go_ret
        exact ⟨ret_bool' hF2.out.symm, hB⟩
    have e2' : (k == 2) = false := by simpa using e2
    by_cases e3 : k = 3
    · have hF := hide (r3.out rfl e3)
      subst e3
      clear r2 r3 r4 e1 e1' e2 e2'
      by_cases hm : m = 0
      · subst hm
        by_cases hz : 0 ≤ bit
        · have hF2 := hide (show HO = decide (bit ≤ 63) by rw [hF.out]; simp [hz])
          clear hF
          go_wp2
          go_ret
          exact ⟨ret_bool' hF2.out.symm, hB⟩
        · have hF2 := hide (show HO = false by rw [hF.out, decide_eq_false (show ¬ (0 ≤ bit ∧ bit ≤ 63) by omega)]; rfl)
          clear hF
          go_wp2
          go_ret
          exact ⟨ret_bool' hF2.out.symm, hB⟩
      · have hm' : ((m : Int) == 0) = false := by simp; omega
        have hF2 := hide (show HO = false by rw [hF.out, decide_eq_false hm]; rfl)
        replace hm := hide hm
        clear hF
        go_wp2
        go_ret
        exact ⟨ret_bool' hF2.out.symm, hB⟩
    have e3' : (k == 3) = false := by simpa using e3
    have hF := hide (r4.out e1 e2 e3)
    clear r2 r3 r4
    replace e1 := hide e1
    replace e2 := hide e2
    replace e3 := hide e3
    go_wp2
    go_ret
    exact ⟨ret_bool' hF.out.symm, hB⟩

theorem cir_tbl {p pub vars sec : Int} {R : List Rw} {H : List Hn} (h : tblOk p pub vars R = false) : cirOk p pub vars R sec H = false := by
  unfold cirOk
  exact decide_eq_false fun hh => by rw [h] at hh; cases hh.1
theorem cir_sizes {p pub vars sec : Int} {R : List Rw} {H : List Hn} (h : ¬ (0 ≤ sec ∧ vars = 1 + pub + sec + H.length)) : cirOk p pub vars R sec H = false := by
  unfold cirOk
  exact decide_eq_false fun hh => h ⟨hh.2.1, hh.2.2.1⟩
theorem cir_stop {p pub vars sec : Int} {R : List Rw} {H : List Hn} {k : Nat} (hk : k < H.length) (h : hintOk p (1 + pub + sec + k) (H.getD k default) = false) : cirOk p pub vars R sec H = false := by
  unfold cirOk
  exact decide_eq_false fun hh => by have := hh.2.2.2 k hk; rw [h] at this; cases this
theorem cir_all {p pub vars sec : Int} {R : List Rw} {H : List Hn} (h1 : tblOk p pub vars R = true) (h2 : 0 ≤ sec ∧ vars = 1 + pub + sec + H.length) (h : ∀ k, k < H.length → hintOk p (1 + pub + sec + k) (H.getD k default) = true) : cirOk p pub vars R sec H = true := by
  unfold cirOk
  exact decide_eq_true ⟨h1, h2.1, h2.2, h⟩
theorem tbl_bd {p pub vars : Int} {R : List Rw} (h : tblOk p pub vars R = true) : vld p = true ∧ 0 ≤ pub ∧ pub < vars ∧ vars ≤ 65536 ∧ R.length ≤ 16384 := by
  have hh := of_decide_eq_true h
  exact ⟨hh.1.1, hh.1.2.1, hh.1.2.2.1, hh.1.2.2.2, hh.2.1⟩

set_option maxHeartbeats 1600000 in
theorem aCValid_any (p pub vars : Int) (ra : Option Addr) (R : List Rw) (rc : Nat) (sec : Int) (ha : Option Addr) (H : List Hn) (hc : Nat) (w : World) (hR : RowsP w ra rc R) (hH : HintsP w ha hc H) (hs : (Lit.int .i64 sec).wf = true) :
    Calls Tryz.prog 58 #[.agg #[.int .u64 p, .int .i64 pub, .int .i64 vars, .slice ra R.length rc, .int .i64 sec, .slice ha H.length hc]] w fun e w' => e = .returned (.bool (cirOk p pub vars R sec H)) ∧ Below w.heap.size w w' := by
  have cT := fun W h => tValid_any p pub vars ra R rc W h
  have hsb := wf_i hs
  have hHl := hints_len hH
  clear hs
  obtain ⟨T, hT⟩ : ∃ T, T = tblOk p pub vars R := ⟨_, rfl⟩
  rw [← hT] at cT
  replace hT := hide hT
  replace hHl := hide hHl
  go_enter Tryz.func58, Tryz.ntmps58
  go_wp2_with fail
  refine name_calls fun W hW => ?_
  have g0 : Blk W w.heap.size #[.int .u64 p, .int .i64 pub, .int .i64 vars, .slice ra R.length rc, .int .i64 sec, .slice ha H.length hc] 47 := by rw [hW]; exact (Blk.newAt rfl).alloc _
  have g1 : Blk W (w.heap.size + 1) #[.int .u64 p, .int .i64 pub, .int .i64 vars, .slice ra R.length rc] 44 := by rw [hW]; exact Blk.newAt (by simp)
  have hB : Below w.heap.size w W := by rw [hW]; exact ((Below.refl _ _).alloc (Nat.le_refl _) _).alloc (by simp) _
  clear hW
  refine (cT W (hR.mono hB)).mono ?_
  rintro e w1 ⟨rfl, hb1⟩
  replace hB := below2 hB hb1
  replace g0 := g0.mono hb1
  replace g1 := g1.mono hb1
  replace hH := hH.mono hB
  clear hb1 cT hR
  have k0 := g0.cell (j := 0) (v := .int .u64 p) rfl; have k1 := g0.cell (j := 1) (v := .int .i64 pub) rfl; have k2 := g0.cell (j := 2) (v := .int .i64 vars) rfl; have k3 := g0.cell (j := 3) (v := .slice ra R.length rc) rfl; have k4 := g0.cell (j := 4) (v := .int .i64 sec) rfl; have k5 := g0.cell (j := 5) (v := .slice ha H.length hc) rfl
  have m0 := g1.cell (j := 0) (v := .int .u64 p) rfl; have m1 := g1.cell (j := 1) (v := .int .i64 pub) rfl; have m2 := g1.cell (j := 2) (v := .int .i64 vars) rfl; have m3 := g1.cell (j := 3) (v := .slice ra R.length rc) rfl
  cases T with
  | false =>
    have hF := hide (cir_tbl (sec := sec) (H := H) hT.out.symm)
    go_wp2
    go_ret
    exact ⟨ret_bool' hF.out.symm, hB⟩
  | true =>
    obtain ⟨_, hp0, hp1, hp2, _⟩ := tbl_bd hT.out.symm
    by_cases h1 : sec < 0
    · have hF := hide (cir_sizes (p := p) (pub := pub) (vars := vars) (R := R) (sec := sec) (H := H) fun h => by omega)
      go_wp2
      go_ret
      exact ⟨ret_bool' hF.out.symm, hB⟩
    by_cases h2 : vars - 1 - pub < sec
    · have hF := hide (cir_sizes (p := p) (pub := pub) (vars := vars) (R := R) (sec := sec) (H := H) fun h => by omega)
      go_wp2
      go_ret
      exact ⟨ret_bool' hF.out.symm, hB⟩
    by_cases h3 : vars - (1 + pub + sec) = H.length
    · have h3' : (vars - (1 + pub + sec) != (H.length : Int)) = false := by simp [h3]
      have hl16 : H.length ≤ 65536 := by omega
      have hz := hide (show 0 ≤ sec ∧ vars = 1 + pub + sec + H.length from ⟨by omega, by omega⟩)
      replace h3 := hide h3
      go_wp2_with fail
      go_loopw [45] (fun t45 wr => ∃ k : Nat, k ≤ H.length ∧ t45 = .int .i64 k ∧ Below w1.heap.size w1 wr ∧ Hid (∀ j, j < k → hintOk p (1 + pub + sec + j) (H.getD j default) = true)) (fun t45 _ => H.length - (intOf t45).toNat)
      case atStart => exact ⟨0, Nat.zero_le _, rfl, Below.refl _ _, hide fun j hj => by omega⟩
      case round =>
        obtain ⟨k, hk, rfl, hb, hU⟩ := hrel
        clear k0 k1 k2 k3 k4 k5 m0 m1 m2 m3
        by_cases hlt : k < H.length
        · have hlt' : (k : Int) < H.length := by omega
          have hH' := hH.mono hb
          have gr := g0.mono hb
          have gs := g1.mono hb
          have k0 := gr.cell (j := 0) (v := .int .u64 p) rfl; have k1 := gr.cell (j := 1) (v := .int .i64 pub) rfl; have k2 := gr.cell (j := 2) (v := .int .i64 vars) rfl; have k3 := gr.cell (j := 3) (v := .slice ra R.length rc) rfl; have k4 := gr.cell (j := 4) (v := .int .i64 sec) rfl; have k5 := gr.cell (j := 5) (v := .slice ha H.length hc) rfl
          have m0 := gs.cell (j := 0) (v := .int .u64 p) rfl; have m1 := gs.cell (j := 1) (v := .int .i64 pub) rfl; have m2 := gs.cell (j := 2) (v := .int .i64 vars) rfl; have m3 := gs.cell (j := 3) (v := .slice ra R.length rc) rfl
          have hgl := gr.lt
          have hgs := gs.lt
          obtain ⟨b, off, rfl, _, hc⟩ := hH'.s (by omega)
          obtain ⟨hc0, hc1, hc2, hc3⟩ := hc k hlt
          obtain ⟨hx, hy, _, _⟩ := hH'.ok _ (getD_mem' hlt default)
          have hst := hide (fun h => cir_stop (p := p) (pub := pub) (vars := vars) (R := R) (sec := sec) hlt h)
          have hnx := hide (fun h : hintOk p (1 + pub + sec + k) (H.getD k default) = true => fun j (hj : j < k + 1) => (by
            rcases Nat.lt_or_ge j k with h2 | h2
            · exact hU.out j h2
            · have : j = k := by omega
              subst this; exact h : hintOk p (1 + pub + sec + j) (H.getD j default) = true))
          clear hc hH' hU hH
          generalize H.getD k default = r at *
          obtain ⟨kk, x, y, bit⟩ := r
          simp only at hc0 hc1 hc2 hc3 hx hy
          have cR := fun W h1 h2 => aHint_any p (1 + pub + sec + k) kk x y bit W h1 h2
          generalize hintOk p (1 + pub + sec + k) ⟨kk, x, y, bit⟩ = q at *
          go_wp2_with fail
          refine name_calls fun W2 hW2 => ?_
          have hb2 : Below wr.heap.size wr W2 := by rw [hW2]; exact (Below.refl _ _).alloc (Nat.le_refl _) _
          clear hW2
          refine (cR W2 (hx.mono hb2) (hy.mono hb2)).mono ?_
          rintro e w3 ⟨rfl, hb3⟩
          replace hb := below2 hb (below2 hb2 hb3)
          clear hb2 hb3 cR hx hy hc0 hc1 hc2 hc3 k0 k1 k2 k3 k4 k5 m0 m1 m2 m3 gr gs hgl hgs
          cases q with
          | false =>
            have hF := hide (hst.out rfl)
            go_wp2
            go_ret
            exact ⟨ret_bool' hF.out.symm, below2 hB hb⟩
          | true =>
            have hN := hide (hnx.out rfl)
            clear hst hnx
            go_wp2
            go_roundw
            case rel => exact ⟨k + 1, by omega, by go_num, hb, hN⟩
            case measure => simp [intOf]; omega
        · obtain rfl : k = H.length := by omega
          have hF := hide (cir_all hT.out.symm hz.out hU.out)
          go_wp2
          go_ret
          exact ⟨ret_bool' hF.out.symm, below2 hB hb⟩
    · have h3' : (vars - (1 + pub + sec) != (H.length : Int)) = true := by simpa using h3
      have hF := hide (cir_sizes (p := p) (pub := pub) (vars := vars) (R := R) (sec := sec) (H := H) fun h => h3 (by omega))
      replace h3 := hide h3
      go_wp2
      go_ret
      exact ⟨ret_bool' hF.out.symm, hB⟩
end Go.Proofs.YtalmgeefkcebdaaGreatDoor

