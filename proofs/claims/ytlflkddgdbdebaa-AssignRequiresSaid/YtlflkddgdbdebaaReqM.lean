/- A row that requires a variable to have a value: what Satisfy then says, in plain Lean. -/
import Derived.Test.YtlflkddgdbdebaaCutM
namespace Go.Proofs.Ytlflkddgdbdebaa
open Go.RowKit

theorem wf_u8r {j : Int} (h : (Lit.int .u8 j).wf = true) : 0 ≤ j ∧ j < 256 := by
  simp [Lit.wf, IntKind.min, IntKind.max, IntKind.signed, IntKind.bits] at h
  omega
theorem short_rows {R : List Rw} {H : List Hn} {u s : List Int} (h : shortC R H u s = true) : R.length ≤ 400 := by
  unfold shortC smC smT at h
  simp only [Bool.and_eq_true, decide_eq_true_eq] at h
  have h2 := h.2.2
  by_cases hn : (R.length : Int) ≤ 400
  · omega
  · rw [goT_stop hn] at h2
    omega

theorem asn_bd {p vars : Int} {W : List Int} (h : asnOk p vars W = true) : (W.length : Int) = vars ∧ W.getD 0 0 = 1 ∧ ∀ i, i < W.length → W.getD i 0 < p := of_decide_eq_true h

theorem rowOk_req {p vars n : Int} {j : Nat} {r : Rw} (hv : vld p = true) (hr1 : r.a.l = [((j : Int), 1)]) (hr2 : r.b.l = [(0, 1)]) (hr3 : r.c.l = (if n = 0 then [] else [(0, n)])) (hj : (j : Int) < vars) (hn : 0 ≤ n ∧ n < p) : rowOk p vars r = true := by
  have hp := vld_pos hv
  unfold rowOk
  have e1 : linOk p vars [((j : Int), 1)] = true := decide_eq_true fun i hi => by
    have : i = 0 := by simpa using hi
    subst this
    exact ⟨⟨by simp, by simpa using hj⟩, fun h => absurd h (Nat.lt_irrefl 0), by simp, by simp; omega⟩
  have e2 : ∀ m : Int, m ≠ 0 → m < p → linOk p vars [(0, m)] = true := fun m h0 h1 => decide_eq_true fun i hi => by
    have : i = 0 := by simpa using hi
    subst this
    exact ⟨⟨by simp, by simp; omega⟩, fun h => absurd h (Nat.lt_irrefl 0), by simpa using h0, by simpa using h1⟩
  rw [hr1, hr2, hr3, e1, e2 1 (by decide) (by omega)]
  split
  · rw [linOk_nil]; rfl
  · rename_i h; rw [e2 n h hn.2]; rfl

theorem lval_one {p : Int} {W : List Int} (hv : vld p = true) {j : Nat} (hj : j < W.length) (h : 0 ≤ W.getD j 0 ∧ W.getD j 0 < p) : lval p W [((j : Int), 1)] = W.getD j 0 := by
  have hp := vld_pos hv
  show lstep p W 0 ((j : Int), 1) = _
  rw [lstep_in hj, fmul_eq hv, fadd_eq hv, Int.one_mul, Int.zero_add, Int.emod_emod_of_dvd _ (Int.dvd_refl p), Int.emod_eq_of_lt h.1 h.2]

theorem rowSat_req {p n : Int} {W : List Int} {j : Nat} {r : Rw} (hv : vld p = true) (h0 : W.getD 0 0 = 1) (hj : j < W.length) (hW : 0 ≤ W.getD j 0 ∧ W.getD j 0 < p) (hr1 : r.a.l = [((j : Int), 1)]) (hr2 : r.b.l = [(0, 1)]) (hr3 : r.c.l = (if n = 0 then [] else [(0, n)])) (hn : 0 ≤ n ∧ n < p) :
    rowSat p W r = decide (n = W.getD j 0) := by
  have hp := vld_pos hv
  have e1 := lval_one hv hj hW
  have e0 : lval p W [(0, 1)] = 1 := by
    have := lval_one (p := p) (W := W) hv (j := 0) (by omega) (by rw [h0]; omega)
    rw [h0] at this
    exact this
  have ec : lval p W r.c.l = n := by
    rw [hr3]
    split
    · rename_i h; rw [h]; rfl
    · show lstep p W 0 (((0 : Nat) : Int), n) = _
      rw [lstep_in (by omega), h0, fmul_eq hv, fadd_eq hv, Int.mul_one, Int.zero_add, Int.emod_emod_of_dvd _ (Int.dvd_refl p), Int.emod_eq_of_lt hn.1 hn.2]
  unfold rowSat
  rw [hr1, hr2, ec, e1, e0, fmul_eq hv, Int.mul_one, Int.emod_eq_of_lt hW.1 hW.2, Bool.eq_iff_iff]
  simp only [beq_iff_eq, decide_eq_true_eq]
  exact eq_comm

theorem req_sat {p pub vars sec : Int} {R : List Rw} {H : List Hn} {u s : List Int} (hu : AllW u) (hs : AllW s) (hO : runOk p pub vars R sec H u s = true) (hS : satOk p pub vars R (runL p pub vars R sec H u s) = true) (hRl : R.length ≤ 400)
    {n : Int} {j : Nat} {r : Rw} (hr1 : r.a.l = [((j : Int), 1)]) (hr2 : r.b.l = [(0, 1)]) (hr3 : r.c.l = (if n = 0 then [] else [(0, n)])) (hj : j < (runL p pub vars R sec H u s).length) (hn : 0 ≤ n ∧ n < p) :
    satL p pub vars (R ++ [r]) sec H u s = (if n = (runL p pub vars R sec H u s).getD j 0 then runL p pub vars R sec H u s else []) ∧ satE p pub vars (R ++ [r]) sec H u s = (if n = (runL p pub vars R sec H u s).getD j 0 then 0 else 9) := by
  have hWW := runL_W (p := p) (pub := pub) (vars := vars) (R := R) (sec := sec) (H := H) hu hs
  have eL : runL p pub vars R sec H u s = runH p (1 :: (u ++ s)) H := by unfold runL; rw [hO, if_pos rfl]
  have hO' := hO
  unfold runOk at hO'
  rw [Bool.and_eq_true] at hO'
  obtain ⟨hT, hs0, hv, hok⟩ := cir_bd hO'.1
  obtain ⟨hvp, hp0, hp1, hp2, _⟩ := tbl_bd hT
  have hS' := hS
  unfold satOk at hS'
  rw [Bool.and_eq_true, Bool.and_eq_true] at hS'
  obtain ⟨⟨_, hA⟩, hRS⟩ := hS'
  obtain ⟨hAl, hA0, hAp⟩ := asn_bd hA
  have hro := rowOk_req (vars := vars) hvp hr1 hr2 hr3 (by omega) hn
  have hT2 : tblOk p pub vars (R ++ [r]) = true := by
    have hTd := of_decide_eq_true hT
    refine decide_eq_true ⟨hTd.1, by simp; omega, fun i hi => ?_⟩
    by_cases hlt : i < R.length
    · have : (R ++ [r]).getD i default = R.getD i default := by rw [List.getD_eq_getElem?_getD, List.getElem?_append_left hlt, List.getD_eq_getElem?_getD]
      rw [this]; exact hTd.2.2 i hlt
    · have : i = R.length := by simp at hi; omega
      subst this
      have : (R ++ [r]).getD R.length default = r := by rw [List.getD_eq_getElem?_getD, List.getElem?_append_right (Nat.le_refl _), Nat.sub_self]; rfl
      rw [this]; exact hro
  have hO2 : runOk p pub vars (R ++ [r]) sec H u s = true := by
    unfold runOk
    rw [Bool.and_eq_true]
    exact ⟨decide_eq_true ⟨hT2, hs0, hv, hok⟩, hO'.2⟩
  have eL2 : runL p pub vars (R ++ [r]) sec H u s = runL p pub vars R sec H u s := by rw [eL]; unfold runL; rw [hO2, if_pos rfl]
  have hj0 : 0 < (runL p pub vars R sec H u s).length := by omega
  have hWj : 0 ≤ (runL p pub vars R sec H u s).getD j 0 ∧ (runL p pub vars R sec H u s).getD j 0 < p := ⟨(hWW _ (getD_mem' hj 0)).1, hAp j hj⟩
  have hrs := rowSat_req hvp hA0 hj hWj hr1 hr2 hr3 hn
  have hS2 : satOk p pub vars (R ++ [r]) (runL p pub vars R sec H u s) = decide (n = (runL p pub vars R sec H u s).getD j 0) := by
    unfold satOk
    rw [hT2, hA, Bool.true_and, Bool.true_and, ← hrs]
    have hRd := of_decide_eq_true hRS
    rw [Bool.eq_iff_iff]
    unfold rowsSat
    rw [decide_eq_true_eq]
    constructor
    · intro h
      have := h R.length (by simp)
      have e : (R ++ [r]).getD R.length default = r := by rw [List.getD_eq_getElem?_getD, List.getElem?_append_right (Nat.le_refl _), Nat.sub_self]; rfl
      rwa [e] at this
    · intro h i hi
      by_cases hlt : i < R.length
      · have : (R ++ [r]).getD i default = R.getD i default := by rw [List.getD_eq_getElem?_getD, List.getElem?_append_left hlt, List.getD_eq_getElem?_getD]
        rw [this]; exact hRd i hlt
      · have : i = R.length := by simp at hi; omega
        subst this
        have e : (R ++ [r]).getD R.length default = r := by rw [List.getD_eq_getElem?_getD, List.getElem?_append_right (Nat.le_refl _), Nat.sub_self]; rfl
        rw [e]; exact h
  obtain ⟨_, h1, h2⟩ := runE_of hO2
  rw [h1, h2, eL2, hS2]
  by_cases h : n = (runL p pub vars R sec H u s).getD j 0
  · rw [decide_eq_true h]
    simp only [if_pos h, if_true, and_self]
  · rw [decide_eq_false h]
    simp only [if_neg h, Bool.false_eq_true, if_false, and_self]

theorem sat_ok {p pub vars sec : Int} {R : List Rw} {H : List Hn} {u s : List Int} (h : satE p pub vars R sec H u s = 0) : runOk p pub vars R sec H u s = true ∧ satOk p pub vars R (runL p pub vars R sec H u s) = true ∧ satL p pub vars R sec H u s = runL p pub vars R sec H u s := by
  unfold satE at h
  split at h
  · rename_i h1
    split at h
    · rename_i h2
      refine ⟨h1, h2, ?_⟩
      unfold satL
      rw [h1, h2]; rfl
    · cases h
  · cases h

theorem add_other {p a z : Int} (hv : vld p = true) (ha : 0 ≤ a ∧ a < p) (hz : ¬ z % p = 0) : ¬ fadd p a z = a := by
  have hp := vld_pos hv
  rw [fadd_eq hv]
  intro h
  have h1 : (a + z) % p = a % p := by rw [h, Int.emod_eq_of_lt ha.1 ha.2]
  have h2 : p ∣ (a + z - a) := Int.dvd_of_emod_eq_zero (by rw [Int.sub_emod, h1, Int.sub_self]; rfl)
  rw [show a + z - a = z by omega] at h2
  exact hz (Int.emod_eq_zero_of_dvd h2)
theorem fadd_lt {p : Int} (hv : vld p = true) (a b : Int) : 0 ≤ fadd p a b ∧ fadd p a b < p := by
  have hp := vld_pos hv
  rw [fadd_eq hv]
  exact mod_lt' (by omega) _
end Go.Proofs.Ytlflkddgdbdebaa
