/- ExhaustiveInputs: Inputs returns the specified lists, or the specified error. -/
import Derived.Test.YtlgjnidphldiiaaExW
namespace Go.Proofs.Ytlgjnidphldiiaa
open Go.ChangeShapes Go.WideShapes Go.ChangeAt Go.RowKit
namespace exhaustiveInputs

theorem inp1_mem (F : List Int → Bool) : ∀ x, ∀ l ∈ inp1 F x, l.length ≤ 2
  | 0, l, h => by cases h
  | x + 1, l, h => by
    rw [inp1] at h
    rcases List.mem_append.1 h with h | h
    · exact inp1_mem F x l h
    · split at h
      · rw [List.mem_singleton] at h; subst h; simp
      · cases h
theorem inpB_mem (F : List Int → Bool) (x : Nat) : ∀ y, ∀ l ∈ inpB F x y, l.length ≤ 2
  | 0, l, h => by cases h
  | y + 1, l, h => by
    rw [inpB] at h
    rcases List.mem_append.1 h with h | h
    · exact inpB_mem F x y l h
    · split at h
      · rw [List.mem_singleton] at h; subst h; simp
      · cases h
theorem inp2_mem (F : List Int → Bool) (p : Nat) : ∀ x, ∀ l ∈ inp2 F p x, l.length ≤ 2
  | 0, l, h => by cases h
  | x + 1, l, h => by
    rw [inp2] at h
    rcases List.mem_append.1 h with h | h
    · exact inp2_mem F p x l h
    · exact inpB_mem F x p l h
theorem inpL_bd {p : Nat} (h : p ≤ 257) (R : List Row3) (V : Nat) (i : Int) : (inpL p R V i).length ≤ 100000 ∧ ∀ l ∈ inpL p R V i, l.length ≤ 100 := by
  unfold inpL
  split
  · exact ⟨Nat.le_trans (inp1_len _ p) (by omega), fun l hl => Nat.le_trans (inp1_mem _ _ l hl) (by decide)⟩
  · exact ⟨Nat.le_trans (inp2_len _ p p) (Nat.le_trans (Nat.mul_le_mul h h) (by decide)), fun l hl => Nat.le_trans (inp2_mem _ _ _ l hl) (by decide)⟩

set_option maxRecDepth 10000 in
set_option maxHeartbeats 16000000 in
theorem walk (p pub vars : Int) (ra : Option Addr) (rc : Nat) (R : List Rw) (inputs : Int) (w : World)
    (_ : (Lit.int .u64 p).wf = true ∧ (Lit.int .i64 pub).wf = true ∧ (Lit.int .i64 vars).wf = true) (hR : RowsP w ra rc R) (hm : (Lit.int .i64 inputs).wf = true) :
    Calls Try.prog 12 #[.agg #[.int .u64 p, .int .i64 pub, .int .i64 vars, .slice ra R.length rc], .int .i64 inputs] w fun e w' => e = .returned (.bool true) ∧ Below w.heap.size w w' := by
  obtain ⟨hm1, hm2⟩ := wf_i hm
  have cS := fun W h => tSmall_any p pub vars ra R rc W h
  have cV := fun W h => rTValid_any p pub vars ra R rc W h
  have cI := fun W h1 => Inputs23_any p pub vars ra R rc inputs W h1 ⟨hm1, hm2⟩
  clear hm
  cases hsm : smT R with
  | false =>
    rw [hsm] at cS
    clear hsm cV cI
    go_enter Try.func12, Try.ntmps12
    go_wp2_with fail
    refine name_calls fun W hN => ?_
    have g0 : Blk W w.heap.size #[.int .u64 p, .int .i64 pub, .int .i64 vars, .slice ra R.length rc] 34 := by rw [hN]; exact Blk.newAt rfl
    have hB : Below w.heap.size w W := by rw [hN]; exact (Below.refl _ _).alloc (Nat.le_refl _) _
    clear hN
    refine (awake23 W).mono ?_
    rintro e w1 ⟨rfl, hb1⟩
    replace g0 := g0.mono hb1
    replace hB := below2 hB hb1
    clear hb1
    have k0 := g0.cell (j := 0) (v := .int .u64 p) rfl; have k1 := g0.cell (j := 1) (v := .int .i64 pub) rfl; have k2 := g0.cell (j := 2) (v := .int .i64 vars) rfl; have k3 := g0.cell (j := 3) (v := .slice ra R.length rc) rfl
    go_wp2_with fail
    refine (cS _ (hR.mono hB)).mono ?_
    rintro e w2 ⟨rfl, hb2⟩
    replace g0 := g0.mono hb2
    replace hB := below2 hB hb2
    clear hb2 k0 k1 k2 k3
    have k0 := g0.cell (j := 0) (v := .int .u64 p) rfl; have k1 := g0.cell (j := 1) (v := .int .i64 pub) rfl; have k2 := g0.cell (j := 2) (v := .int .i64 vars) rfl; have k3 := g0.cell (j := 3) (v := .slice ra R.length rc) rfl
    go_wp2_with fail
    refine (awake23 _).mono ?_
    rintro e wz ⟨rfl, hbz⟩
    replace hB := below2 hB hbz
    clear hbz
    go_wp2
    go_ret
    exact ⟨rfl, hB⟩
  | true =>
    rw [hsm] at cS
    replace hsm := hide hsm
    cases hOk : insOk p pub vars R inputs with
    | false =>
      have hno : insN p pub vars R inputs = [] ∧ insE p pub vars R inputs = 1 := by
        unfold insN insE
        rw [hOk]
        exact ⟨rfl, rfl⟩
      rw [hno.1, hno.2] at cI
      clear hno
      cases hT : tblOk p pub vars R with
      | false =>
        rw [hT] at cV
        clear hT hOk
        go_enter Try.func12, Try.ntmps12
        go_wp2_with fail
        refine name_calls fun W hN => ?_
        have g0 : Blk W w.heap.size #[.int .u64 p, .int .i64 pub, .int .i64 vars, .slice ra R.length rc] 34 := by rw [hN]; exact Blk.newAt rfl
        have hB : Below w.heap.size w W := by rw [hN]; exact (Below.refl _ _).alloc (Nat.le_refl _) _
        clear hN
        refine (awake23 W).mono ?_
        rintro e w1 ⟨rfl, hb1⟩
        replace g0 := g0.mono hb1
        replace hB := below2 hB hb1
        clear hb1
        have k0 := g0.cell (j := 0) (v := .int .u64 p) rfl; have k1 := g0.cell (j := 1) (v := .int .i64 pub) rfl; have k2 := g0.cell (j := 2) (v := .int .i64 vars) rfl; have k3 := g0.cell (j := 3) (v := .slice ra R.length rc) rfl
        go_wp2_with fail
        refine (cS _ (hR.mono hB)).mono ?_
        rintro e w2 ⟨rfl, hb2⟩
        replace g0 := g0.mono hb2
        replace hB := below2 hB hb2
        clear hb2 k0 k1 k2 k3
        have k0 := g0.cell (j := 0) (v := .int .u64 p) rfl; have k1 := g0.cell (j := 1) (v := .int .i64 pub) rfl; have k2 := g0.cell (j := 2) (v := .int .i64 vars) rfl; have k3 := g0.cell (j := 3) (v := .slice ra R.length rc) rfl
        go_wp2_with fail
        refine (cV _ (hR.mono hB)).mono ?_
        rintro e w3 ⟨rfl, hb3⟩
        replace g0 := g0.mono hb3
        replace hB := below2 hB hb3
        clear hb3 k0 k1 k2 k3
        have k0 := g0.cell (j := 0) (v := .int .u64 p) rfl; have k1 := g0.cell (j := 1) (v := .int .i64 pub) rfl; have k2 := g0.cell (j := 2) (v := .int .i64 vars) rfl; have k3 := g0.cell (j := 3) (v := .slice ra R.length rc) rfl
        go_wp2_with fail
        refine (cI _ (hR.mono hB)).mono ?_
        rintro e w4 ⟨v, rfl, hL, hb4⟩
        obtain ⟨ad, c, rfl, _⟩ := hL.sl
        replace g0 := g0.mono hb4
        replace hB := below2 hB hb4
        clear hb4 k0 k1 k2 k3
        have k0 := g0.cell (j := 0) (v := .int .u64 p) rfl; have k1 := g0.cell (j := 1) (v := .int .i64 pub) rfl; have k2 := g0.cell (j := 2) (v := .int .i64 vars) rfl; have k3 := g0.cell (j := 3) (v := .slice ra R.length rc) rfl
        go_wp2
        go_ret
        exact ⟨rfl, hB⟩
      | true =>
        rw [hT] at cV
        have hcase : inputs < 1 ∨ (1 ≤ inputs ∧ 2 < inputs) ∨ (1 ≤ inputs ∧ inputs ≤ 2 ∧ vars ≤ inputs) := by
          unfold insOk at hOk
          rw [hT, Bool.true_and] at hOk
          rcases Bool.and_eq_false_iff.1 hOk with h | h
          · rcases Bool.and_eq_false_iff.1 h with h | h
            · have := of_decide_eq_false h; omega
            · have := of_decide_eq_false h; omega
          · have := of_decide_eq_false h; omega
        clear hT hOk
        rcases hcase with h | ⟨h0, h⟩ | ⟨h0, h1, h⟩
        · have hN : ¬ 1 ≤ inputs := by omega
          go_enter Try.func12, Try.ntmps12
          go_wp2_with fail
          refine name_calls fun W hN => ?_
          have g0 : Blk W w.heap.size #[.int .u64 p, .int .i64 pub, .int .i64 vars, .slice ra R.length rc] 34 := by rw [hN]; exact Blk.newAt rfl
          have hB : Below w.heap.size w W := by rw [hN]; exact (Below.refl _ _).alloc (Nat.le_refl _) _
          clear hN
          refine (awake23 W).mono ?_
          rintro e w1 ⟨rfl, hb1⟩
          replace g0 := g0.mono hb1
          replace hB := below2 hB hb1
          clear hb1
          have k0 := g0.cell (j := 0) (v := .int .u64 p) rfl; have k1 := g0.cell (j := 1) (v := .int .i64 pub) rfl; have k2 := g0.cell (j := 2) (v := .int .i64 vars) rfl; have k3 := g0.cell (j := 3) (v := .slice ra R.length rc) rfl
          go_wp2_with fail
          refine (cS _ (hR.mono hB)).mono ?_
          rintro e w2 ⟨rfl, hb2⟩
          replace g0 := g0.mono hb2
          replace hB := below2 hB hb2
          clear hb2 k0 k1 k2 k3
          have k0 := g0.cell (j := 0) (v := .int .u64 p) rfl; have k1 := g0.cell (j := 1) (v := .int .i64 pub) rfl; have k2 := g0.cell (j := 2) (v := .int .i64 vars) rfl; have k3 := g0.cell (j := 3) (v := .slice ra R.length rc) rfl
          go_wp2_with fail
          refine (cV _ (hR.mono hB)).mono ?_
          rintro e w3 ⟨rfl, hb3⟩
          replace g0 := g0.mono hb3
          replace hB := below2 hB hb3
          clear hb3 k0 k1 k2 k3
          have k0 := g0.cell (j := 0) (v := .int .u64 p) rfl; have k1 := g0.cell (j := 1) (v := .int .i64 pub) rfl; have k2 := g0.cell (j := 2) (v := .int .i64 vars) rfl; have k3 := g0.cell (j := 3) (v := .slice ra R.length rc) rfl
          go_wp2_with fail
          refine (cI _ (hR.mono hB)).mono ?_
          rintro e w4 ⟨v, rfl, hL, hb4⟩
          obtain ⟨ad, c, rfl, _⟩ := hL.sl
          replace g0 := g0.mono hb4
          replace hB := below2 hB hb4
          clear hb4 k0 k1 k2 k3
          have k0 := g0.cell (j := 0) (v := .int .u64 p) rfl; have k1 := g0.cell (j := 1) (v := .int .i64 pub) rfl; have k2 := g0.cell (j := 2) (v := .int .i64 vars) rfl; have k3 := g0.cell (j := 3) (v := .slice ra R.length rc) rfl
          go_wp2
          go_ret
          exact ⟨rfl, hB⟩
        · have hN : ¬ inputs ≤ 2 := by omega
          go_enter Try.func12, Try.ntmps12
          go_wp2_with fail
          refine name_calls fun W hN => ?_
          have g0 : Blk W w.heap.size #[.int .u64 p, .int .i64 pub, .int .i64 vars, .slice ra R.length rc] 34 := by rw [hN]; exact Blk.newAt rfl
          have hB : Below w.heap.size w W := by rw [hN]; exact (Below.refl _ _).alloc (Nat.le_refl _) _
          clear hN
          refine (awake23 W).mono ?_
          rintro e w1 ⟨rfl, hb1⟩
          replace g0 := g0.mono hb1
          replace hB := below2 hB hb1
          clear hb1
          have k0 := g0.cell (j := 0) (v := .int .u64 p) rfl; have k1 := g0.cell (j := 1) (v := .int .i64 pub) rfl; have k2 := g0.cell (j := 2) (v := .int .i64 vars) rfl; have k3 := g0.cell (j := 3) (v := .slice ra R.length rc) rfl
          go_wp2_with fail
          refine (cS _ (hR.mono hB)).mono ?_
          rintro e w2 ⟨rfl, hb2⟩
          replace g0 := g0.mono hb2
          replace hB := below2 hB hb2
          clear hb2 k0 k1 k2 k3
          have k0 := g0.cell (j := 0) (v := .int .u64 p) rfl; have k1 := g0.cell (j := 1) (v := .int .i64 pub) rfl; have k2 := g0.cell (j := 2) (v := .int .i64 vars) rfl; have k3 := g0.cell (j := 3) (v := .slice ra R.length rc) rfl
          go_wp2_with fail
          refine (cV _ (hR.mono hB)).mono ?_
          rintro e w3 ⟨rfl, hb3⟩
          replace g0 := g0.mono hb3
          replace hB := below2 hB hb3
          clear hb3 k0 k1 k2 k3
          have k0 := g0.cell (j := 0) (v := .int .u64 p) rfl; have k1 := g0.cell (j := 1) (v := .int .i64 pub) rfl; have k2 := g0.cell (j := 2) (v := .int .i64 vars) rfl; have k3 := g0.cell (j := 3) (v := .slice ra R.length rc) rfl
          go_wp2_with fail
          refine (cI _ (hR.mono hB)).mono ?_
          rintro e w4 ⟨v, rfl, hL, hb4⟩
          obtain ⟨ad, c, rfl, _⟩ := hL.sl
          replace g0 := g0.mono hb4
          replace hB := below2 hB hb4
          clear hb4 k0 k1 k2 k3
          have k0 := g0.cell (j := 0) (v := .int .u64 p) rfl; have k1 := g0.cell (j := 1) (v := .int .i64 pub) rfl; have k2 := g0.cell (j := 2) (v := .int .i64 vars) rfl; have k3 := g0.cell (j := 3) (v := .slice ra R.length rc) rfl
          go_wp2
          go_ret
          exact ⟨rfl, hB⟩
        · have hN : ¬ inputs < vars := by omega
          go_enter Try.func12, Try.ntmps12
          go_wp2_with fail
          refine name_calls fun W hN => ?_
          have g0 : Blk W w.heap.size #[.int .u64 p, .int .i64 pub, .int .i64 vars, .slice ra R.length rc] 34 := by rw [hN]; exact Blk.newAt rfl
          have hB : Below w.heap.size w W := by rw [hN]; exact (Below.refl _ _).alloc (Nat.le_refl _) _
          clear hN
          refine (awake23 W).mono ?_
          rintro e w1 ⟨rfl, hb1⟩
          replace g0 := g0.mono hb1
          replace hB := below2 hB hb1
          clear hb1
          have k0 := g0.cell (j := 0) (v := .int .u64 p) rfl; have k1 := g0.cell (j := 1) (v := .int .i64 pub) rfl; have k2 := g0.cell (j := 2) (v := .int .i64 vars) rfl; have k3 := g0.cell (j := 3) (v := .slice ra R.length rc) rfl
          go_wp2_with fail
          refine (cS _ (hR.mono hB)).mono ?_
          rintro e w2 ⟨rfl, hb2⟩
          replace g0 := g0.mono hb2
          replace hB := below2 hB hb2
          clear hb2 k0 k1 k2 k3
          have k0 := g0.cell (j := 0) (v := .int .u64 p) rfl; have k1 := g0.cell (j := 1) (v := .int .i64 pub) rfl; have k2 := g0.cell (j := 2) (v := .int .i64 vars) rfl; have k3 := g0.cell (j := 3) (v := .slice ra R.length rc) rfl
          go_wp2_with fail
          refine (cV _ (hR.mono hB)).mono ?_
          rintro e w3 ⟨rfl, hb3⟩
          replace g0 := g0.mono hb3
          replace hB := below2 hB hb3
          clear hb3 k0 k1 k2 k3
          have k0 := g0.cell (j := 0) (v := .int .u64 p) rfl; have k1 := g0.cell (j := 1) (v := .int .i64 pub) rfl; have k2 := g0.cell (j := 2) (v := .int .i64 vars) rfl; have k3 := g0.cell (j := 3) (v := .slice ra R.length rc) rfl
          go_wp2_with fail
          refine (cI _ (hR.mono hB)).mono ?_
          rintro e w4 ⟨v, rfl, hL, hb4⟩
          obtain ⟨ad, c, rfl, _⟩ := hL.sl
          replace g0 := g0.mono hb4
          replace hB := below2 hB hb4
          clear hb4 k0 k1 k2 k3
          have k0 := g0.cell (j := 0) (v := .int .u64 p) rfl; have k1 := g0.cell (j := 1) (v := .int .i64 pub) rfl; have k2 := g0.cell (j := 2) (v := .int .i64 vars) rfl; have k3 := g0.cell (j := 3) (v := .slice ra R.length rc) rfl
          go_wp2
          go_ret
          exact ⟨rfl, hB⟩
    | true =>
      have hOk2 := hOk
      unfold insOk at hOk2
      simp only [Bool.and_eq_true, decide_eq_true_iff] at hOk2
      obtain ⟨⟨⟨hT, hi1⟩, hi2⟩, hiV⟩ := hOk2
      obtain ⟨hv, hpub, hpv, hvl, hRl⟩ := tbl_bd hT
      have hp := vld_pos hv
      rw [hT] at cV
      obtain ⟨P, rfl⟩ : ∃ P : Nat, p = (P : Int) := ⟨p.toNat, by omega⟩
      obtain ⟨V, rfl⟩ : ∃ V : Nat, vars = (V : Int) := ⟨vars.toNat, by omega⟩
      by_cases h257 : P ≤ 257
      · have h257I : (P : Int) ≤ 257 := by omega
        have h257N : ¬ (257 : Int) < P := by omega
        have cN : insN P pub V R inputs = inpL P (R.map Rw.val) V inputs ∧ insE P pub V R inputs = 0 := by
          unfold insN insE
          rw [hOk, if_pos rfl, if_pos rfl, if_neg h257N, if_neg h257N, Int.toNat_natCast, Int.toNat_natCast]
          exact ⟨rfl, rfl⟩
        rw [cN.1, cN.2] at cI
        have cR : ∀ W : World, RowsP W ra rc R → Calls Try.prog 66 #[.agg #[.int .u64 P, .int .i64 pub, .int .i64 V, .slice ra R.length rc], .int .i64 inputs] W fun e w' => ∃ v, e = .returned v ∧ LL w' W.heap.size v (inpL P (R.map Rw.val) V inputs) ∧ Below W.heap.size W w' := fun W h => by
          rcases (show inputs = 1 ∨ inputs = 2 by omega) with rfl | rfl
          · exact rInp1_any P V pub ra R rc W (by omega) h257 (rows_of hT hR) (by omega) (by omega) h (by omega)
          · exact rInp2_any P V pub ra R rc W (by omega) h257 (rows_of hT hR) (by omega) (by omega) h (by omega)
        have cW := fun W h1 => rFew_any P V 0 pub ra R rc W h1 (by omega) (by omega) (by omega)
        obtain ⟨hX1, hX2⟩ := inpL_bd h257 (R.map Rw.val) V inputs
        clear hOk cN hT hv hRl
        generalize inpL P (R.map Rw.val) V inputs = X at *
        replace hX2 := hide hX2
        cases hfew : fewB P V 0 R with
        | false =>
          rw [hfew] at cW
          clear hfew cI cR
          go_enter Try.func12, Try.ntmps12
          go_wp2_with fail
          refine name_calls fun W hN => ?_
          have g0 : Blk W w.heap.size #[.int .u64 P, .int .i64 pub, .int .i64 V, .slice ra R.length rc] 34 := by rw [hN]; exact Blk.newAt rfl
          have hB : Below w.heap.size w W := by rw [hN]; exact (Below.refl _ _).alloc (Nat.le_refl _) _
          clear hN
          refine (awake23 W).mono ?_
          rintro e w1 ⟨rfl, hb1⟩
          replace g0 := g0.mono hb1
          replace hB := below2 hB hb1
          clear hb1
          have k0 := g0.cell (j := 0) (v := .int .u64 P) rfl; have k1 := g0.cell (j := 1) (v := .int .i64 pub) rfl; have k2 := g0.cell (j := 2) (v := .int .i64 V) rfl; have k3 := g0.cell (j := 3) (v := .slice ra R.length rc) rfl
          go_wp2_with fail
          refine (cS _ (hR.mono hB)).mono ?_
          rintro e w2 ⟨rfl, hb2⟩
          replace g0 := g0.mono hb2
          replace hB := below2 hB hb2
          clear hb2 k0 k1 k2 k3
          have k0 := g0.cell (j := 0) (v := .int .u64 P) rfl; have k1 := g0.cell (j := 1) (v := .int .i64 pub) rfl; have k2 := g0.cell (j := 2) (v := .int .i64 V) rfl; have k3 := g0.cell (j := 3) (v := .slice ra R.length rc) rfl
          go_wp2_with fail
          refine (cV _ (hR.mono hB)).mono ?_
          rintro e w3 ⟨rfl, hb3⟩
          replace g0 := g0.mono hb3
          replace hB := below2 hB hb3
          clear hb3 k0 k1 k2 k3
          have k0 := g0.cell (j := 0) (v := .int .u64 P) rfl; have k1 := g0.cell (j := 1) (v := .int .i64 pub) rfl; have k2 := g0.cell (j := 2) (v := .int .i64 V) rfl; have k3 := g0.cell (j := 3) (v := .slice ra R.length rc) rfl
          go_wp2_with fail
          refine (cW _ (hR.mono hB)).mono ?_
          rintro e w4 ⟨rfl, hb4⟩
          replace g0 := g0.mono hb4
          replace hB := below2 hB hb4
          clear hb4 k0 k1 k2 k3
          have k0 := g0.cell (j := 0) (v := .int .u64 P) rfl; have k1 := g0.cell (j := 1) (v := .int .i64 pub) rfl; have k2 := g0.cell (j := 2) (v := .int .i64 V) rfl; have k3 := g0.cell (j := 3) (v := .slice ra R.length rc) rfl
          go_wp2_with fail
          go_wp2
          go_ret
          exact ⟨rfl, hB⟩
        | true =>
          rw [hfew] at cW
          clear hfew
          go_enter Try.func12, Try.ntmps12
          go_wp2_with fail
          refine name_calls fun W hN => ?_
          have g0 : Blk W w.heap.size #[.int .u64 P, .int .i64 pub, .int .i64 V, .slice ra R.length rc] 34 := by rw [hN]; exact Blk.newAt rfl
          have hB : Below w.heap.size w W := by rw [hN]; exact (Below.refl _ _).alloc (Nat.le_refl _) _
          clear hN
          refine (awake23 W).mono ?_
          rintro e w1 ⟨rfl, hb1⟩
          replace g0 := g0.mono hb1
          replace hB := below2 hB hb1
          clear hb1
          have k0 := g0.cell (j := 0) (v := .int .u64 P) rfl; have k1 := g0.cell (j := 1) (v := .int .i64 pub) rfl; have k2 := g0.cell (j := 2) (v := .int .i64 V) rfl; have k3 := g0.cell (j := 3) (v := .slice ra R.length rc) rfl
          go_wp2_with fail
          refine (cS _ (hR.mono hB)).mono ?_
          rintro e w2 ⟨rfl, hb2⟩
          replace g0 := g0.mono hb2
          replace hB := below2 hB hb2
          clear hb2 k0 k1 k2 k3
          have k0 := g0.cell (j := 0) (v := .int .u64 P) rfl; have k1 := g0.cell (j := 1) (v := .int .i64 pub) rfl; have k2 := g0.cell (j := 2) (v := .int .i64 V) rfl; have k3 := g0.cell (j := 3) (v := .slice ra R.length rc) rfl
          go_wp2_with fail
          refine (cV _ (hR.mono hB)).mono ?_
          rintro e w3 ⟨rfl, hb3⟩
          replace g0 := g0.mono hb3
          replace hB := below2 hB hb3
          clear hb3 k0 k1 k2 k3
          have k0 := g0.cell (j := 0) (v := .int .u64 P) rfl; have k1 := g0.cell (j := 1) (v := .int .i64 pub) rfl; have k2 := g0.cell (j := 2) (v := .int .i64 V) rfl; have k3 := g0.cell (j := 3) (v := .slice ra R.length rc) rfl
          go_wp2_with fail
          refine (cW _ (hR.mono hB)).mono ?_
          rintro e w4 ⟨rfl, hb4⟩
          replace g0 := g0.mono hb4
          replace hB := below2 hB hb4
          clear hb4 k0 k1 k2 k3
          have k0 := g0.cell (j := 0) (v := .int .u64 P) rfl; have k1 := g0.cell (j := 1) (v := .int .i64 pub) rfl; have k2 := g0.cell (j := 2) (v := .int .i64 V) rfl; have k3 := g0.cell (j := 3) (v := .slice ra R.length rc) rfl
          go_wp2_with fail
          refine (cI _ (hR.mono hB)).mono ?_
          rintro e w5 ⟨v, rfl, hL, hb5⟩
          obtain ⟨ad, c, rfl, _⟩ := hL.sl
          replace g0 := g0.mono hb5
          replace hB := below2 hB hb5
          clear hb5 k0 k1 k2 k3
          have k0 := g0.cell (j := 0) (v := .int .u64 P) rfl; have k1 := g0.cell (j := 1) (v := .int .i64 pub) rfl; have k2 := g0.cell (j := 2) (v := .int .i64 V) rfl; have k3 := g0.cell (j := 3) (v := .slice ra R.length rc) rfl
          go_wp2_with fail
          refine (cR _ (hR.mono hB)).mono ?_
          rintro e w6 ⟨v2, rfl, hL2, hb6⟩
          replace hB := below2 hB hb6
          replace hL := hL.mono hb6
          clear hb6 k0 k1 k2 k3 g0
          go_wp2_with fail
          refine (rSame23_any w6 hL hL2 hX1 hX2.out).mono ?_
          rintro e w7 ⟨rfl, hb7⟩
          replace hB := below2 hB hb7
          clear hb7 hL hL2
          go_wp2
          go_ret
          exact ⟨rfl, hB⟩
      · have h257I : ¬ (P : Int) ≤ 257 := by omega
        have h257N : (257 : Int) < P := by omega
        have cN : insN P pub V R inputs = [] ∧ insE P pub V R inputs = 7 := by
          unfold insN insE
          rw [hOk, if_pos rfl, if_pos rfl, if_pos h257N, if_pos h257N]
          exact ⟨rfl, rfl⟩
        rw [cN.1, cN.2] at cI
        clear hOk cN hT hv hRl
        go_enter Try.func12, Try.ntmps12
        go_wp2_with fail
        refine name_calls fun W hN => ?_
        have g0 : Blk W w.heap.size #[.int .u64 P, .int .i64 pub, .int .i64 V, .slice ra R.length rc] 34 := by rw [hN]; exact Blk.newAt rfl
        have hB : Below w.heap.size w W := by rw [hN]; exact (Below.refl _ _).alloc (Nat.le_refl _) _
        clear hN
        refine (awake23 W).mono ?_
        rintro e w1 ⟨rfl, hb1⟩
        replace g0 := g0.mono hb1
        replace hB := below2 hB hb1
        clear hb1
        have k0 := g0.cell (j := 0) (v := .int .u64 P) rfl; have k1 := g0.cell (j := 1) (v := .int .i64 pub) rfl; have k2 := g0.cell (j := 2) (v := .int .i64 V) rfl; have k3 := g0.cell (j := 3) (v := .slice ra R.length rc) rfl
        go_wp2_with fail
        refine (cS _ (hR.mono hB)).mono ?_
        rintro e w2 ⟨rfl, hb2⟩
        replace g0 := g0.mono hb2
        replace hB := below2 hB hb2
        clear hb2 k0 k1 k2 k3
        have k0 := g0.cell (j := 0) (v := .int .u64 P) rfl; have k1 := g0.cell (j := 1) (v := .int .i64 pub) rfl; have k2 := g0.cell (j := 2) (v := .int .i64 V) rfl; have k3 := g0.cell (j := 3) (v := .slice ra R.length rc) rfl
        go_wp2_with fail
        refine (cV _ (hR.mono hB)).mono ?_
        rintro e w3 ⟨rfl, hb3⟩
        replace g0 := g0.mono hb3
        replace hB := below2 hB hb3
        clear hb3 k0 k1 k2 k3
        have k0 := g0.cell (j := 0) (v := .int .u64 P) rfl; have k1 := g0.cell (j := 1) (v := .int .i64 pub) rfl; have k2 := g0.cell (j := 2) (v := .int .i64 V) rfl; have k3 := g0.cell (j := 3) (v := .slice ra R.length rc) rfl
        go_wp2_with fail
        refine (cI _ (hR.mono hB)).mono ?_
        rintro e w4 ⟨v, rfl, hL, hb4⟩
        obtain ⟨ad, c, rfl, _⟩ := hL.sl
        replace g0 := g0.mono hb4
        replace hB := below2 hB hb4
        clear hb4 k0 k1 k2 k3
        have k0 := g0.cell (j := 0) (v := .int .u64 P) rfl; have k1 := g0.cell (j := 1) (v := .int .i64 pub) rfl; have k2 := g0.cell (j := 2) (v := .int .i64 V) rfl; have k3 := g0.cell (j := 3) (v := .slice ra R.length rc) rfl
        go_wp2
        go_ret
        exact ⟨rfl, hB⟩

set_option maxRecDepth 100000 in
theorem lifted (os : Os) (started : os.Started) (H : Type) (enc : TypeId × Value → H) :
    ReturnsInHanded {} Try.checked os 12 .any (Rows.exhaustiveInputsSpec.pre6 enc Try.prog Try.f12 Rows.exhaustiveInputsRow.domain false) (Rows.exhaustiveInputsSpec.post enc Try.prog Try.f12 false true false false) := by
  refine returnsInHanded_of_change (C := Try.checked) own started (by kernel_rfl) Try.func12
    (ChangeSpec.witness6 (enc := enc) (C := Try.checked) false ⟨#[], #[.agg #[.int .u64 0, .int .i64 0, .int .i64 0, .slice none 0 0], .int .i64 0], []⟩ 8 (by kernel_rfl) (by kernel_rfl) (by kernel_rfl) (by kernel_rfl)) ?_
  intro W base args ds gs before hval0 hW hcnd _
  have hval : ∀ (j : Nat) t v, Try.f12.params[j]? = some t → args[j]? = some v → Value.okWide Try.prog W .any base t v := hval0
  have hW' := hW
  obtain ⟨p, q, hA0, hV, rfl, hfz, hnd⟩ := hW
  have hA : DataW.TrodAll enc Try.prog W 0 (fun _ => true) true Try.f12.params.toList args.toList ds p := hA0
  rw [Try.params12] at hA hval
  obtain ⟨v0, vs0, d0, ds0, p0, q0, hargs, rfl, rfl, h0, r0⟩ := trodAll_cons hA
  obtain ⟨v1, vs1, d1, ds1, p1, q1, rfl, rfl, rfl, h1, r1⟩ := trodAll_cons r0
  obtain ⟨rfl, rfl, rfl⟩ := trodAll_nil r1
  obtain rfl : args = #[v0, v1] := by cases args; simp_all
  obtain ⟨rfl, rfl⟩ := trodVars_none hV
  have k0 := h0
  obtain ⟨p0, pub0, vars0, ra0, rc0, R0, rfl, wc0, hR0⟩ := open_tbl h0 (hval 0 34 v0 rfl rfl)
  obtain ⟨a1, rfl, rfl, rfl, w1⟩ := open_int Try.underlying3 (hval 1 3 v1 rfl rfl) h1
  clear hA0 hval0
  simp only [List.append_nil] at hW'
  refine (walk p0 pub0 vars0 ra0 rc0 R0 a1 W wc0 hR0 w1).mono fun e W' ⟨he, hg⟩ => ?_
  subst he
  exact ⟨_, rfl, post_of_below (pv := []) hW' (fun _ _ _ => (trodAll_cons_mk (shut_bool Try.underlying4 _) trodAll_mk0))
    (fun sp _ hsp => by subst hsp; exact (trodAll_cons_mk (Below.trod Try.laidOut (by kernel_rfl) (of_decide_eq_true (by kernel_rfl)) k0 hg (fun x hx => hW'.lt x (by simp [hx]))) (trodAll_cons_mk (shut_int Try.underlying3 w1) trodAll_mk0))) (fun _ _ => rfl) (by simp) hg⟩

theorem closed : joinedFacts Try.prog 12 Try.f12 Rows.exhaustiveInputsSpec Rows.exhaustiveInputsRow = true := by
  unfold joinedFacts
  rw [Try.mayEnter, Try.liftsFinal, Try.make]
  kernel_rfl

theorem proved : Rows.ExhaustiveInputsSaid :=
  OpenClaim.holds_of_wide 12 Try.f12 rfl rfl rfl rfl rfl rfl rfl ⟨rfl, rfl, rfl, rfl, rfl⟩ rfl rfl rfl rfl rfl (by kernel_rfl) Try.func12 closed
    (of_decide_eq_true (by kernel_rfl)) (by unfold Func.isWrapper; first | (rw [if_pos (by decide +kernel)]; kernel_rfl) | (rw [if_neg (by decide +kernel)]; exact ⟨rfl, rfl⟩))
    (fun os started H enc _ => lifted os started H enc)
#print axioms proved
end exhaustiveInputs
end Go.Proofs.Ytlgjnidphldiiaa
