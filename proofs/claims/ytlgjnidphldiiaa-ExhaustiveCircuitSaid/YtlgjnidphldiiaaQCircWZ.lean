/- Circuits: Valid of tables, of the program and of the reference. -/
import Derived.Test.YtlgjnidphldiiaaQCircV
namespace Go.Proofs.Ytlgjnidphldiiaa
open Go.RowKit

set_option maxHeartbeats 1600000 in
theorem tLinear_any (p pub vars : Int) (ra : Option Addr) (R : List Rw) (rc : Nat) (s : Lc) (w : World) (hs : LcOk w s) :
    Calls Try.prog 140 #[.agg #[.int .u64 p, .int .i64 pub, .int .i64 vars, .slice ra R.length rc], .slice s.ad s.l.length s.cap] w fun e w' => e = .returned (.bool (linOk p vars s.l)) ∧ Below w.heap.size w w' := by
  obtain ⟨a, cap, L⟩ := s
  have hl := hs.sl
  have hw := hs.wl
  have hle := hide (lc_len hs)
  clear hs
  simp only at hl hw ⊢
  go_enter Try.func140, Try.ntmps140
  go_wp2_with fail
  refine name_world fun W hW => ?_
  have g0 : Blk W w.heap.size #[.int .u64 p, .int .i64 pub, .int .i64 vars, .slice ra R.length rc] 34 := by rw [hW]; exact Blk.newAt rfl
  have hB0 : Below w.heap.size w W := by rw [hW]; exact (Below.refl _ _).alloc (Nat.le_refl _) _
  clear hW
  replace hl := hl.mono hB0
  go_wp2
  go_loopw [10, 5] (fun t10 t5 wr => ∃ (k : Nat) (lst : Int), k ≤ L.length ∧ t10 = .int .i64 k ∧ t5 = .int .i64 lst ∧ Below W.heap.size W wr ∧ LinUpTo p vars L k lst) (fun t10 _ _ => L.length - (intOf t10).toNat)
  case atStart => exact ⟨0, -1, Nat.zero_le _, rfl, rfl, Below.refl _ _, .zero _ _ _⟩
  case round =>
    obtain ⟨k, lst, hk, rfl, rfl, hB, hU⟩ := hrel
    by_cases hlt : k < L.length
    · have hlt' : (k : Int) < L.length := by omega
      obtain ⟨b, off, rfl, _, hc0, hc1⟩ := (hl.mono hB).get hlt
      have hW := hw.get hlt
      have hst := hide (fun h => linOk_stop (p := p) (n := vars) hlt h)
      have hat := hide hU.at_
      have hnx := hide (fun h => hU.next h)
      generalize L.getD k (0, 0) = t at *
      obtain ⟨v, c⟩ := t
      simp only at hc0 hc1 hW hat hnx
      have hBa := hB.alloc hB.size (.cells #[.int .i64 v, .int .u64 c] 100)
      have g1 := g0.mono hBa
      have k0 := g1.cell (j := 0) (v := .int .u64 p) rfl; have k1 := g1.cell (j := 1) (v := .int .i64 pub) rfl; have k2 := g1.cell (j := 2) (v := .int .i64 vars) rfl; have k3 := g1.cell (j := 3) (v := .slice ra R.length rc) rfl
      clear hU hl hw
      by_cases h1 : v ≤ lst
      · have hR := hide (hst.out fun h => by have := (hat.out.1 h).1; omega)
        clear hst hat hnx
        go_wp2
        go_ret
        exact ⟨ret_bool' hR.out.symm, below2 hB0 hBa⟩
      by_cases h2 : vars ≤ v
      · have hR := hide (hst.out fun h => by have := (hat.out.1 h).2.1; omega)
        clear hst hat hnx
        go_wp2
        go_ret
        exact ⟨ret_bool' hR.out.symm, below2 hB0 hBa⟩
      by_cases h3 : c = 0
      · have hR := hide (hst.out fun h => (hat.out.1 h).2.2.1 h3)
        have h3' : (c == 0) = true := by simp [h3]
        replace h3 := hide h3
        clear hst hat hnx
        go_wp2
        go_ret
        exact ⟨ret_bool' hR.out.symm, below2 hB0 hBa⟩
      have h3' : (c == 0) = false := by simpa using h3
      by_cases h4 : p ≤ c
      · have hR := hide (hst.out fun h => by have := (hat.out.1 h).2.2.2; omega)
        clear hst hat hnx
        go_wp2
        go_ret
        exact ⟨ret_bool' hR.out.symm, below2 hB0 hBa⟩
      have hN := hide (hnx.out (hat.out.2 ⟨by omega, by omega, h3, by omega⟩))
      clear hst hat hnx
      go_wp2
      go_roundw
      case rel => exact ⟨k + 1, v, by omega, rel_succ hlt hle.out, rfl, hBa, hN.out⟩
      case measure => exact meas_succ hlt hle.out
    · obtain rfl : k = L.length := by omega
      have hR := hide hU.all
      clear hU
      go_wp2
      go_ret
      exact ⟨ret_bool' hR.out.symm, below2 hB0 hB⟩

end Go.Proofs.Ytlgjnidphldiiaa

/- Circuits: Valid of a table's rows, of the program and of the reference. -/
namespace Go.Proofs.Ytlgjnidphldiiaa
open Go.RowKit

set_option maxHeartbeats 1600000 in
theorem tRow_any (p pub vars : Int) (ra : Option Addr) (R : List Rw) (rc : Nat) (x y z : Lc) (w : World) (hx : LcOk w x) (hy : LcOk w y) (hz : LcOk w z) :
    Calls Try.prog 126 #[.agg #[.int .u64 p, .int .i64 pub, .int .i64 vars, .slice ra R.length rc], .agg #[.slice x.ad x.l.length x.cap, .slice y.ad y.l.length y.cap, .slice z.ad z.l.length z.cap]] w fun e w' => e = .returned (.bool (linOk p vars x.l && linOk p vars y.l && linOk p vars z.l)) ∧ Below w.heap.size w w' := by
  have c1 := fun W h => tLinear_any p pub vars ra R rc x W h
  have c2 := fun W h => tLinear_any p pub vars ra R rc y W h
  have c3 := fun W h => tLinear_any p pub vars ra R rc z W h
  generalize linOk p vars x.l = b1 at *
  generalize linOk p vars y.l = b2 at *
  generalize linOk p vars z.l = b3 at *
  go_enter Try.func126, Try.ntmps126
  go_wp2_with fail
  refine name_calls fun W hW => ?_
  have g0 : Blk W w.heap.size #[.int .u64 p, .int .i64 pub, .int .i64 vars, .slice ra R.length rc] 34 := by rw [hW]; exact (Blk.newAt rfl).alloc _
  have g1 : Blk W (w.heap.size + 1) #[.slice x.ad x.l.length x.cap, .slice y.ad y.l.length y.cap, .slice z.ad z.l.length z.cap] 106 := by rw [hW]; exact Blk.newAt (by simp)
  have hB : Below w.heap.size w W := by rw [hW]; exact ((Below.refl _ _).alloc (Nat.le_refl _) _).alloc (by simp) _
  clear hW
  refine (c1 W (hx.mono hB)).mono ?_
  rintro e w1 ⟨rfl, hb1⟩
  replace hB := below2 hB hb1
  replace g0 := g0.mono hb1
  replace g1 := g1.mono hb1
  clear hb1 c1
  have k0 := g0.cell (j := 0) (v := .int .u64 p) rfl; have k1 := g0.cell (j := 1) (v := .int .i64 pub) rfl; have k2 := g0.cell (j := 2) (v := .int .i64 vars) rfl; have k3 := g0.cell (j := 3) (v := .slice ra R.length rc) rfl
  have r1 := g1.cell (j := 1) (v := .slice y.ad y.l.length y.cap) rfl
  have r2 := g1.cell (j := 2) (v := .slice z.ad z.l.length z.cap) rfl
  cases b1 with
  | false =>
    clear c2 c3
    go_wp2
    go_ret
    exact ⟨rfl, hB⟩
  | true =>
    go_wp2_with fail
    refine (c2 w1 (hy.mono hB)).mono ?_
    rintro e w2 ⟨rfl, hb2⟩
    replace hB := below2 hB hb2
    replace g0 := g0.mono hb2
    replace g1 := g1.mono hb2
    clear hb2 c2 k0 k1 k2 k3 r1 r2
    have k0 := g0.cell (j := 0) (v := .int .u64 p) rfl; have k1 := g0.cell (j := 1) (v := .int .i64 pub) rfl; have k2 := g0.cell (j := 2) (v := .int .i64 vars) rfl; have k3 := g0.cell (j := 3) (v := .slice ra R.length rc) rfl
    have r2 := g1.cell (j := 2) (v := .slice z.ad z.l.length z.cap) rfl
    cases b2 with
    | false =>
      clear c3
      go_wp2
      go_ret
      exact ⟨rfl, hB⟩
    | true =>
      go_wp2_with fail
      refine (c3 w2 (hz.mono hB)).mono ?_
      rintro e w3 ⟨rfl, hb3⟩
      replace hB := below2 hB hb3
      clear hb3 c3 k0 k1 k2 k3 r2 g0 g1
      go_wp2
      go_ret
      exact ⟨by simp, hB⟩

def sizesOk (p pub vars : Int) : Bool := decide (vld p = true ∧ 0 ≤ pub ∧ pub < vars ∧ vars ≤ 65536)

set_option maxHeartbeats 1600000 in
theorem tSizes_any (p pub vars : Int) (ra : Option Addr) (R : List Rw) (rc : Nat) (w : World) :
    Calls Try.prog 125 #[.agg #[.int .u64 p, .int .i64 pub, .int .i64 vars, .slice ra R.length rc]] w fun e w' => e = .returned (.bool (sizesOk p pub vars)) ∧ Below w.heap.size w w' := by
  have cV := fun W => valid_any p W
  obtain ⟨V, hV⟩ : ∃ V, V = vld p := ⟨_, rfl⟩
  rw [← hV] at cV
  replace hV := hide hV
  go_enter Try.func125, Try.ntmps125
  go_wp2_with fail
  refine name_calls fun W hW => ?_
  have g0 : Blk W w.heap.size #[.int .u64 p, .int .i64 pub, .int .i64 vars, .slice ra R.length rc] 34 := by rw [hW]; exact Blk.newAt rfl
  have hB : Below w.heap.size w W := by rw [hW]; exact (Below.refl _ _).alloc (Nat.le_refl _) _
  clear hW
  refine (cV W).mono ?_
  rintro e w1 ⟨rfl, hb1⟩
  replace hB := below2 hB hb1
  replace g0 := g0.mono hb1
  clear hb1 cV
  have k0 := g0.cell (j := 0) (v := .int .u64 p) rfl; have k1 := g0.cell (j := 1) (v := .int .i64 pub) rfl; have k2 := g0.cell (j := 2) (v := .int .i64 vars) rfl; have k3 := g0.cell (j := 3) (v := .slice ra R.length rc) rfl
  cases V with
  | false =>
    go_wp2
    go_ret
    exact ⟨ret_bool' (by unfold sizesOk; rw [← hV.out]; simp), hB⟩
  | true =>
    by_cases h1 : 0 ≤ pub
    · by_cases h2 : pub < vars
      · go_wp2
        go_ret
        exact ⟨ret_bool' (by unfold sizesOk; rw [← hV.out]; simp [h1, h2]), hB⟩
      · go_wp2
        go_ret
        exact ⟨ret_bool' (decide_eq_false fun hh => by have := hh.2.2.1; omega).symm, hB⟩
    · go_wp2
      go_ret
      exact ⟨ret_bool' (decide_eq_false fun hh => by have := hh.2.1; omega).symm, hB⟩

theorem tbl_stop {p pub vars : Int} {R : List Rw} {k : Nat} (hk : k < R.length) (h : rowOk p vars (R.getD k default) = false) : tblOk p pub vars R = false := by
  unfold tblOk
  exact decide_eq_false fun hh => by have := hh.2.2 k hk; rw [h] at this; cases this
theorem tbl_all {p pub vars : Int} {R : List Rw} (hs : sizesOk p pub vars = true) (hl : R.length ≤ 16384) (h : ∀ k, k < R.length → rowOk p vars (R.getD k default) = true) : tblOk p pub vars R = true := by
  unfold tblOk
  exact decide_eq_true ⟨of_decide_eq_true hs, hl, h⟩
theorem tbl_sizes {p pub vars : Int} {R : List Rw} (h : sizesOk p pub vars = false) : tblOk p pub vars R = false := by
  unfold tblOk
  exact decide_eq_false fun hh => of_decide_eq_false h hh.1
theorem tbl_len {p pub vars : Int} {R : List Rw} (h : ¬ R.length ≤ 16384) : tblOk p pub vars R = false := by
  unfold tblOk
  exact decide_eq_false fun hh => h hh.2.1

set_option maxHeartbeats 1600000 in
theorem tValid_any (p pub vars : Int) (ra : Option Addr) (R : List Rw) (rc : Nat) (w : World) (hR : RowsP w ra rc R) :
    Calls Try.prog 102 #[.agg #[.int .u64 p, .int .i64 pub, .int .i64 vars, .slice ra R.length rc]] w fun e w' => e = .returned (.bool (tblOk p pub vars R)) ∧ Below w.heap.size w w' := by
  have cS := fun W => tSizes_any p pub vars ra R rc W
  obtain ⟨S, hS⟩ : ∃ S, S = sizesOk p pub vars := ⟨_, rfl⟩
  rw [← hS] at cS
  replace hS := hide hS
  go_enter Try.func102, Try.ntmps102
  go_wp2_with fail
  refine name_calls fun W hW => ?_
  have g0 : Blk W w.heap.size #[.int .u64 p, .int .i64 pub, .int .i64 vars, .slice ra R.length rc] 34 := by rw [hW]; exact Blk.newAt rfl
  have hB : Below w.heap.size w W := by rw [hW]; exact (Below.refl _ _).alloc (Nat.le_refl _) _
  clear hW
  refine (cS W).mono ?_
  rintro e w1 ⟨rfl, hb1⟩
  replace hB := below2 hB hb1
  replace g0 := g0.mono hb1
  clear hb1 cS
  have k0 := g0.cell (j := 0) (v := .int .u64 p) rfl; have k1 := g0.cell (j := 1) (v := .int .i64 pub) rfl; have k2 := g0.cell (j := 2) (v := .int .i64 vars) rfl; have k3 := g0.cell (j := 3) (v := .slice ra R.length rc) rfl
  cases S with
  | false =>
    have hF := hide (tbl_sizes (R := R) hS.out.symm)
    go_wp2
    go_ret
    exact ⟨ret_bool' hF.out.symm, hB⟩
  | true =>
    by_cases hl : R.length ≤ 16384
    · have hl' : (R.length : Int) ≤ 16384 := by omega
      replace hR := hR.mono hB
      go_wp2_with fail
      go_loopw [17] (fun t17 wr => ∃ k : Nat, k ≤ R.length ∧ t17 = .int .i64 k ∧ Below w1.heap.size w1 wr ∧ Hid (∀ j, j < k → rowOk p vars (R.getD j default) = true)) (fun t17 _ => R.length - (intOf t17).toNat)
      case atStart => exact ⟨0, Nat.zero_le _, rfl, Below.refl _ _, hide fun j hj => by omega⟩
      case round =>
        obtain ⟨k, hk, rfl, hb, hU⟩ := hrel
        clear k0 k1 k2 k3
        by_cases hlt : k < R.length
        · have hlt' : (k : Int) < R.length := by omega
          have hR' := hR.mono hb
          have gr := g0.mono hb
          have k0 := gr.cell (j := 0) (v := .int .u64 p) rfl; have k1 := gr.cell (j := 1) (v := .int .i64 pub) rfl; have k2 := gr.cell (j := 2) (v := .int .i64 vars) rfl; have k3 := gr.cell (j := 3) (v := .slice ra R.length rc) rfl
          have hgl := gr.lt
          obtain ⟨b, off, rfl, _, hc⟩ := hR'.s (by omega)
          obtain ⟨hc0, hc1, hc2⟩ := hc k hlt
          obtain ⟨hx, hy, hz⟩ := hR'.ok _ (getD_mem' hlt default)
          have hst := hide (fun h => tbl_stop (p := p) (pub := pub) (vars := vars) hlt h)
          have hnx := hide (fun h : rowOk p vars (R.getD k default) = true => fun j (hj : j < k + 1) => (by
            rcases Nat.lt_or_ge j k with h2 | h2
            · exact hU.out j h2
            · have : j = k := by omega
              subst this; exact h : rowOk p vars (R.getD j default) = true))
          clear hc hR' hU hR
          generalize R.getD k default = r at *
          obtain ⟨x, y, z⟩ := r
          simp only at hc0 hc1 hc2 hx hy hz
          have cR := fun W h1 h2 h3 => tRow_any p pub vars (some ⟨b, off, none⟩) R rc x y z W h1 h2 h3
          have hro : rowOk p vars ⟨x, y, z⟩ = (linOk p vars x.l && linOk p vars y.l && linOk p vars z.l) := rfl
          rw [← hro] at cR
          clear hro
          generalize rowOk p vars ⟨x, y, z⟩ = q at *
          go_wp2_with fail
          refine name_calls fun W2 hW2 => ?_
          have hb2 : Below wr.heap.size wr W2 := by rw [hW2]; exact (Below.refl _ _).alloc (Nat.le_refl _) _
          clear hW2
          refine (cR W2 (hx.mono hb2) (hy.mono hb2) (hz.mono hb2)).mono ?_
          rintro e w3 ⟨rfl, hb3⟩
          replace hb := below2 hb (below2 hb2 hb3)
          clear hb2 hb3 cR hx hy hz hc0 hc1 hc2 k0 k1 k2 k3 gr
          cases q with
          | false =>
            have hF := hide (hst.out rfl)
            go_wp2
            go_ret
            exact ⟨ret_bool' hF.out.symm, below2 hB hb⟩
          | true =>
            have hN := hide (hnx.out rfl)
            clear hst hnx
            go_wp2
            go_roundw
            case rel => exact ⟨k + 1, by omega, by go_num, hb, hN⟩
            case measure => simp [intOf]; omega
        · obtain rfl : k = R.length := by omega
          have hF := hide (tbl_all hS.out.symm hl hU.out)
          go_wp2
          go_ret
          exact ⟨ret_bool' hF.out.symm, below2 hB hb⟩
    · have hl' : (16384 : Int) < R.length := by omega
      have hF := hide (tbl_len (p := p) (pub := pub) (vars := vars) hl)
      clear hR hl
      go_wp2
      go_ret
      exact ⟨ret_bool' hF.out.symm, hB⟩
end Go.Proofs.Ytlgjnidphldiiaa

/- Circuits: Valid of the reference's tables; hints. -/
namespace Go.Proofs.Ytlgjnidphldiiaa
open Go.RowKit

end Go.Proofs.Ytlgjnidphldiiaa

/- Circuits: Valid and Small of circuits, of the program and of the reference. -/
namespace Go.Proofs.Ytlgjnidphldiiaa
open Go.RowKit

theorem tbl_bd {p pub vars : Int} {R : List Rw} (h : tblOk p pub vars R = true) : vld p = true ∧ 0 ≤ pub ∧ pub < vars ∧ vars ≤ 65536 ∧ R.length ≤ 16384 := by
  have hh := of_decide_eq_true h
  exact ⟨hh.1.1, hh.1.2.1, hh.1.2.2.1, hh.1.2.2.2, hh.2.1⟩

end Go.Proofs.Ytlgjnidphldiiaa
