/- Exhaustive search: a table as a parameter; plain laws of the count. -/
import Derived.Test.YtlgjnidphldiiaaExR
namespace Go.Proofs.Ytlgjnidphldiiaa
open Go.ChangeShapes Go.WideShapes Go.ChangeAt Go.RowKit

theorem array4 {α : Type} {cs : Array α} (h : cs.size = 4) : ∃ c0 c1 c2 c3, cs = #[c0, c1, c2, c3] := by
  obtain ⟨l⟩ := cs
  match l, h with
  | [c0, c1, c2, c3], _ => exact ⟨c0, c1, c2, c3, rfl⟩

section
variable {H : Type} {enc : TypeId × Value → H} {w : World}
set_option maxRecDepth 100000 in
/-- A table, wherever it lies, opened. -/
theorem open_tbl {r : Reach} {b0 : Nat} {v : Value} {d : DataW H} {ps : List MemPlace} (hd : DataW.Trod enc Try.prog w 0 (fun _ => true) true 34 v d ps) (hval : Value.okWide Try.prog w r b0 34 v) :
    ∃ (p pub vars : Int) (ra : Option Addr) (rc : Nat) (R : List Rw), v = .agg #[.int .u64 p, .int .i64 pub, .int .i64 vars, .slice ra R.length rc] ∧
      ((Lit.int .u64 p).wf = true ∧ (Lit.int .i64 pub).wf = true ∧ (Lit.int .i64 vars).wf = true) ∧ RowsP w ra rc R := by
  have cT : Try.prog.cellsOf 34 = 4 := by kernel_rfl
  have cU : Try.prog.cellsOf 22 = 1 := by kernel_rfl
  have cI : Try.prog.cellsOf 3 = 1 := by kernel_rfl
  have cR : Try.prog.cellsOf 32 = 1 := by kernel_rfl
  have hok := okWide_struct (t := 34) (v := v) (w := w) (r := r) (base := b0) Try.underlying34
  have hok2 := hok hval
  clear hok hval
  obtain ⟨cs, hv, hsz⟩ := hok2
  subst hv
  rw [cT] at hsz
  obtain ⟨v0, v1, v2, v3, rfl⟩ := array4 hsz
  obtain ⟨fuel, hf⟩ := hd
  have hcells : (Value.agg #[v0, v1, v2, v3]).cells.toList = [v0, v1, v2, v3] := by simp [Value.cells]
  rw [hcells] at hf
  obtain ⟨ts, k, _, _, _, htl, htt⟩ := DataW.trod_struct Try.underlying34 hf
  obtain ⟨u0, u1, u2, u3, rfl⟩ := list4 htl
  · clear htl
    have j0 := htt 0 _ rfl
    have j1 := htt 1 _ rfl
    have j2 := htt 2 _ rfl
    have j3 := htt 3 _ rfl
    simp [cU, cI, cR] at j0 j1 j2 j3
    obtain ⟨p, z0, _, w0⟩ := DataW.trod_int Try.underlying22 j0
    obtain ⟨pub, z1, _, w1⟩ := DataW.trod_int Try.underlying3 j1
    obtain ⟨vars, z2, _, w2⟩ := DataW.trod_int Try.underlying3 j2
    obtain ⟨ra, rc, R, z3, hR⟩ := open_rows j3
    simp only [List.cons.injEq, and_true] at z0 z1 z2 z3
    subst z0 z1 z2 z3
    exact ⟨p, pub, vars, ra, rc, R, rfl, ⟨w0, w1, w2⟩, hR⟩
end

/-- The count of a longer front. -/
theorem preOk_snoc {p : Int} {R : List Row3} {front : List Int} {x : Int} : preOk p R (front ++ [x]) = (preOk p R front && okAt p R (1 :: front ++ [x])) := by
  rw [Bool.eq_iff_iff, Bool.and_eq_true]
  unfold preOk
  rw [decide_eq_true_iff, decide_eq_true_iff, List.length_append, List.length_singleton]
  constructor
  · intro h
    refine ⟨fun k hk => ?_, ?_⟩
    · have := h k (by omega)
      rwa [List.take_append_of_le_length (by omega)] at this
    · have := h (front.length + 1) (by omega)
      rwa [List.take_of_length_le (by rw [List.length_append, List.length_singleton]; omega)] at this
  · rintro ⟨h1, h2⟩ k hk
    by_cases e : k = front.length + 1
    · subst e
      rw [List.take_of_length_le (by rw [List.length_append, List.length_singleton]; omega)]
      exact h2
    · rw [List.take_append_of_le_length (by omega)]
      exact h1 k (by omega)
theorem pow_le6 {p k : Nat} {R : List Row3} {W : List Int} (h : p ^ k ≤ 6000) : (cnt p R k W : Int) ≤ 6000 := by
  have := cnt_le p R k W
  omega
/-- The sum over one more element. -/
theorem totN_sum {p V : Nat} {R : List Row3} {front : List Int} (hp : 17 ≤ p) (hl : 1 + front.length < V) (h6 : p ^ (V - (1 + front.length)) ≤ 6000) :
    totN p R V front 10000 = (sumN p fun x => (totN p R V (front ++ [(x : Int)]) 10000).toNat : Nat) := by
  obtain ⟨k, hk⟩ : ∃ k, V - (1 + front.length) = k + 1 := ⟨V - (1 + front.length) - 1, by omega⟩
  have hk2 : ∀ x : Int, V - (1 + (front ++ [x]).length) = k := fun x => by rw [List.length_append, List.length_singleton]; omega
  have h6k : p ^ k ≤ 6000 := Nat.le_trans (Nat.pow_le_pow_right (by omega) (by omega)) h6
  rw [hk] at h6
  unfold totN
  rw [hk]
  have step : ∀ x : Nat, (if preOk p R (front ++ [(x : Int)]) then min 10000 (cnt p R (V - (1 + (front ++ [(x : Int)]).length)) (1 :: (front ++ [(x : Int)])) : Int) else 0).toNat = if preOk p R front then nxN p R k (1 :: front) x else 0 := fun x => by
    rw [hk2, preOk_snoc]
    have hc := pow_le6 (R := R) (W := 1 :: (front ++ [(x : Int)])) h6k
    unfold nxN
    cases preOk (p : Int) R front with
    | false => rfl
    | true =>
      rw [Bool.true_and, if_pos rfl]
      show Int.toNat (if okAt p R ((1 :: front) ++ [(x : Int)]) = true then _ else 0) = if okAt p R ((1 :: front) ++ [(x : Int)]) = true then cnt p R k (1 :: (front ++ [(x : Int)])) else 0
      split
      · rw [show min (10000 : Int) (cnt p R k (1 :: (front ++ [(x : Int)])) : Int) = (cnt p R k (1 :: (front ++ [(x : Int)])) : Int) by omega]
        rfl
      · rfl
  rw [sumN_congr (fun x _ => step x)]
  cases hpre : preOk (p : Int) R front with
  | false =>
    have h0 : (sumN p fun x => if false = true then nxN p R k (1 :: front) x else 0) = 0 := sumN_zero (fun x _ => rfl)
    rw [h0]
    rfl
  | true =>
    have hc := pow_le6 (R := R) (W := 1 :: front) h6
    rw [if_pos rfl, show min (10000 : Int) (cnt p R (k + 1) (1 :: front) : Int) = (cnt p R (k + 1) (1 :: front) : Int) by omega]
    congr 1

/-- The lists of inputs for which F holds: one input; the second of two; two. -/
def inp1 (F : List Int → Bool) : Nat → List (List Int)
  | 0 => []
  | x + 1 => inp1 F x ++ if F [(x : Int)] then [[(x : Int)]] else []
def inpB (F : List Int → Bool) (x : Nat) : Nat → List (List Int)
  | 0 => []
  | y + 1 => inpB F x y ++ if F [(x : Int), (y : Int)] then [[(x : Int), (y : Int)]] else []
def inp2 (F : List Int → Bool) (p : Nat) : Nat → List (List Int)
  | 0 => []
  | x + 1 => inp2 F p x ++ inpB F x p
theorem inp1_len (F : List Int → Bool) : ∀ x, (inp1 F x).length ≤ x
  | 0 => Nat.le_refl _
  | x + 1 => by
    have := inp1_len F x
    rw [inp1, List.length_append]
    split <;> simp <;> omega
theorem inpB_len (F : List Int → Bool) (x : Nat) : ∀ y, (inpB F x y).length ≤ y
  | 0 => Nat.le_refl _
  | y + 1 => by
    have := inpB_len F x y
    rw [inpB, List.length_append]
    split <;> simp <;> omega
theorem inp2_len (F : List Int → Bool) (p : Nat) : ∀ x, (inp2 F p x).length ≤ x * p
  | 0 => by simp [inp2]
  | x + 1 => by
    have := inp2_len F p x
    have := inpB_len F x p
    rw [inp2, List.length_append, Nat.add_mul]
    omega
/-- The inputs for which a table can be satisfied. -/
def inpL (p : Nat) (R : List Row3) (V : Nat) (inputs : Int) : List (List Int) := if inputs = 1 then inp1 (fun l => decide (0 < totN p R V l 1)) p else inp2 (fun l => decide (0 < totN p R V l 1)) p p
end Go.Proofs.Ytlgjnidphldiiaa
