/- GadgetLinear: the parameter's test, and the equalities. -/
import Derived.Test.YtlgjnidphldiiaaGadVX
import Derived.Test.YtlgjnidphldiiaaGadU
namespace Go.Proofs.Ytlgjnidphldiiaa
open Go.RowKit

def rightB (p : Int) (x y : Lin) : Bool := decide (x.length ≤ 30) && decide (y.length ≤ 30) && linOk p 4611686018427387904 x && linOk p 4611686018427387904 y

set_option maxRecDepth 10000 in
set_option maxHeartbeats 4000000 in
theorem right20_any (p n : Int) (x y : Lc) (w : World) (hx : LcOk w x) (hy : LcOk w y) :
    Calls Try.prog 23 #[.agg #[.int .u64 p, .slice x.ad x.l.length x.cap, .slice y.ad y.l.length y.cap, .int .u64 n]] w fun e w' => e = .returned (.bool (rightB p x.l y.l)) ∧ Below w.heap.size w w' := by
  have hlx := lc_len hx
  have hly := lc_len hy
  have cx := fun W h => rRight_any p 4611686018427387904 x W h
  have cy := fun W h => rRight_any p 4611686018427387904 y W h
  have hR : rightB p x.l y.l = (decide (x.l.length ≤ 30) && decide (y.l.length ≤ 30) && linOk p 4611686018427387904 x.l && linOk p 4611686018427387904 y.l) := rfl
  rw [hR]
  clear hR
  generalize linOk p 4611686018427387904 x.l = RX at *
  generalize linOk p 4611686018427387904 y.l = RY at *
  replace hlx := hide hlx
  replace hly := hide hly
  by_cases h1 : x.l.length ≤ 30
  · have h1' : (x.l.length : Int) ≤ 30 := by omega
    by_cases h2 : y.l.length ≤ 30
    · have h2' : (y.l.length : Int) ≤ 30 := by omega
      rw [decide_eq_true h1, decide_eq_true h2, Bool.true_and, Bool.true_and]
      go_enter Try.func23, Try.ntmps23
      go_wp2_with fail
      refine name_calls fun w1 hN => ?_
      have g1 : Blk w1 w.heap.size #[.int .u64 p, .slice x.ad x.l.length x.cap, .slice y.ad y.l.length y.cap, .int .u64 n] 48 := by rw [hN]; exact Blk.newAt rfl
      have hb1 : Below w.heap.size w w1 := by rw [hN]; exact (Below.refl _ _).alloc (Nat.le_refl _) _
      clear hN
      refine (cx w1 (hx.mono hb1)).mono ?_
      rintro e w2 ⟨rfl, hb2⟩
      replace g1 := g1.mono hb2
      replace hb1 := below2 hb1 hb2
      have k0 := g1.cell (j := 0) (v := .int .u64 p) rfl
      have k2 := g1.cell (j := 2) (v := .slice y.ad y.l.length y.cap) rfl
      cases RX with
      | false =>
        go_wp2
        go_ret
        exact ⟨rfl, hb1⟩
      | true =>
        go_wp2_with fail
        refine (cy w2 (hy.mono hb1)).mono ?_
        rintro e w3 ⟨rfl, hb3⟩
        go_wp2
        go_ret
        exact ⟨by simp, below2 hb1 hb3⟩
    · have h2' : (30 : Int) < y.l.length := by omega
      rw [decide_eq_false h2, Bool.and_false, Bool.false_and, Bool.false_and]
      replace h2 := hide h2
      go_enter Try.func23, Try.ntmps23
      go_wp2
      go_ret
      exact ⟨rfl, (Below.refl _ _).alloc (Nat.le_refl _) _⟩
  · have h1' : (30 : Int) < x.l.length := by omega
    rw [decide_eq_false h1, Bool.false_and, Bool.false_and, Bool.false_and]
    replace h1 := hide h1
    go_enter Try.func23, Try.ntmps23
    go_wp2
    go_ret
    exact ⟨rfl, (Below.refl _ _).alloc (Nat.le_refl _) _⟩

theorem coef_of_lin {p n : Int} {x : Lin} (hw : LinW x) (h : linOk p n x = true) : CoefOk p x := fun t ht => by
  obtain ⟨i, hi, rfl⟩ := List.mem_iff_getElem.1 ht
  have := of_decide_eq_true h i hi
  have hw2 := hw.get hi
  unfold linAt at this
  rw [List.getD_eq_getElem?_getD, List.getElem?_eq_getElem hi] at this hw2
  simp only [Option.getD_some] at this hw2
  omega
/-- The program's answers are the reference's. -/
theorem lin_same {p n : Int} {x y : Lin} (hx : vld p = true → CoefOk p x) (hy : vld p = true → CoefOk p y) :
    addP p x y 1 = (if vld p then radd p x y else []) ∧ addP p x y (fneg p 1) = (if vld p then radd p x (rscale p y (p - 1)) else []) ∧ addP p [] x n = (if vld p then rscale p x n else []) := by
  unfold addP
  cases hv : vld p with
  | false => exact ⟨rfl, rfl, rfl⟩
  | true =>
    simp only [if_true]
    refine ⟨comb_add hv x y (hx hv) (hy hv), ?_, comb_scale p n x⟩
    rw [fneg_one hv, comb_sub hv x y (hx hv) (hy hv), rscale_neg hv (hy hv)]
end Go.Proofs.Ytlgjnidphldiiaa
