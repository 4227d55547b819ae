/- Circuits: what the functions compute, in plain Lean. -/
import Derived.Test.YtlgjnidphldiiaaQCircD
import Derived.Test.YtlgjnidphldiiaaQRef1X
namespace Go.Proofs.Ytlgjnidphldiiaa
open Go.RowKit

/-- Term number i of a linear combination of n variables. -/
def linAt (p n : Int) (L : List (Int × Int)) (i : Nat) : Prop := (0 ≤ (L.getD i (0, 0)).1 ∧ (L.getD i (0, 0)).1 < n) ∧ (0 < i → (L.getD (i - 1) (0, 0)).1 < (L.getD i (0, 0)).1) ∧ (L.getD i (0, 0)).2 ≠ 0 ∧ (L.getD i (0, 0)).2 < p
instance (p n : Int) (L : List (Int × Int)) (i : Nat) : Decidable (linAt p n L i) := by unfold linAt; infer_instance
def linOk (p n : Int) (L : List (Int × Int)) : Bool := decide (∀ i, i < L.length → linAt p n L i)
def rowOk (p n : Int) (r : Rw) : Bool := linOk p n r.a.l && linOk p n r.b.l && linOk p n r.c.l
def tblOk (p pub vars : Int) (R : List Rw) : Bool := decide ((vld p = true ∧ 0 ≤ pub ∧ pub < vars ∧ vars ≤ 65536) ∧ R.length ≤ 16384 ∧ ∀ i, i < R.length → rowOk p vars (R.getD i default) = true)
def hintOk (p v : Int) (h : Hn) : Bool := linOk p v h.a.l && (if h.k = 1 then linOk p v h.b.l && decide (h.bit = 0) else if h.k = 2 then decide (h.b.l.length = 0) && decide (h.bit = 0) else if h.k = 3 then decide (h.b.l.length = 0) && decide (0 ≤ h.bit ∧ h.bit ≤ 63) else false)
def cirOk (p pub vars : Int) (R : List Rw) (sec : Int) (H : List Hn) : Bool :=
  decide (tblOk p pub vars R = true ∧ 0 ≤ sec ∧ vars = 1 + pub + sec + H.length ∧ ∀ i, i < H.length → hintOk p (1 + pub + sec + i) (H.getD i default) = true)

/-- The value of a linear combination. -/
def lstep (p : Int) (W : List Int) (s : Int) (t : Int × Int) : Int := if 0 ≤ t.1 ∧ t.1 < (W.length : Int) then fadd p s (fmul p t.2 (W.getD t.1.toNat 0)) else s
def lval (p : Int) (W : List Int) (L : List (Int × Int)) : Int := L.foldl (lstep p W) 0
theorem lstep_bd {p : Int} {W : List Int} {s : Int} {t : Int × Int} (h : 0 ≤ s ∧ s < 18446744073709551616) : 0 ≤ lstep p W s t ∧ lstep p W s t < 18446744073709551616 := by
  unfold lstep
  split
  · exact fadd_bd _ _ _
  · exact h
theorem lval_snoc (p : Int) (W : List Int) (L : List (Int × Int)) (t : Int × Int) : lval p W (L ++ [t]) = lstep p W (lval p W L) t := by
  simp [lval]
theorem lval_step (p : Int) (W : List Int) (L : List (Int × Int)) {k : Nat} (hk : k < L.length) : lval p W (L.take (k + 1)) = lstep p W (lval p W (L.take k)) (L.getD k (0, 0)) := by
  rw [take_succ_getD L (0, 0) hk, lval_snoc]
theorem lval_bd (p : Int) (W : List Int) (L : List (Int × Int)) : 0 ≤ lval p W L ∧ lval p W L < 18446744073709551616 := by
  unfold lval
  have : ∀ (l : List (Int × Int)) (s : Int), 0 ≤ s ∧ s < 18446744073709551616 → 0 ≤ l.foldl (lstep p W) s ∧ l.foldl (lstep p W) s < 18446744073709551616 := by
    intro l
    induction l with
    | nil => exact fun s h => h
    | cons x l ih => exact fun s h => ih _ (lstep_bd h)
  exact this _ _ (by decide)
theorem lval_lt {p : Int} (hv : vld p = true) (W : List Int) (L : List (Int × Int)) : lval p W L < p := by
  have hp := vld_pos hv
  unfold lval
  have : ∀ (l : List (Int × Int)) (s : Int), s < p → l.foldl (lstep p W) s < p := by
    intro l
    induction l with
    | nil => exact fun s h => h
    | cons x l ih => exact fun s h => ih _ (by
        unfold lstep
        split
        · rw [fadd_eq hv]; exact (mod_lt' (by omega) _).2
        · exact h)
  exact this _ _ (by omega)
/-- The value that a hint determines. -/
def hval (p : Int) (W : List Int) (h : Hn) : Int := if h.k = 1 then fmul p (lval p W h.a.l) (lval p W h.b.l) else if h.k = 2 then finv p (lval p W h.a.l) else lval p W h.a.l / 2 ^ h.bit.toNat % 2
theorem hval_bd (p : Int) (W : List Int) (h : Hn) : 0 ≤ hval p W h ∧ hval p W h < 18446744073709551616 := by
  unfold hval
  split
  · exact fmul_bd _ _ _
  · split
    · exact finv_bd _ _
    · omega
/-- The completion of an assignment by hints. -/
def runH (p : Int) (W : List Int) (H : List Hn) : List Int := H.foldl (fun W h => W ++ [hval p W h]) W
theorem runH_snoc (p : Int) (W : List Int) (H : List Hn) (h : Hn) : runH p W (H ++ [h]) = runH p W H ++ [hval p (runH p W H) h] := by simp [runH]
theorem runH_step (p : Int) (W : List Int) (H : List Hn) {k : Nat} (hk : k < H.length) : runH p W (H.take (k + 1)) = runH p W (H.take k) ++ [hval p (runH p W (H.take k)) (H.getD k default)] := by
  rw [take_succ_getD H default hk, runH_snoc]
theorem runH_len (p : Int) (W : List Int) (H : List Hn) : (runH p W H).length = W.length + H.length := by
  unfold runH
  induction H generalizing W with
  | nil => rfl
  | cons h H ih => rw [List.foldl_cons, ih]; simp; omega
theorem runH_mem {p : Int} {Q : Int → Prop} (hq : ∀ W h, Q (hval p W h)) {W : List Int} (hW : ∀ x ∈ W, Q x) (H : List Hn) : ∀ x ∈ runH p W H, Q x := by
  unfold runH
  induction H generalizing W with
  | nil => exact hW
  | cons h H ih =>
    rw [List.foldl_cons]
    refine ih fun x hx => ?_
    rcases List.mem_append.1 hx with h1 | h1
    · exact hW x h1
    · rw [List.mem_singleton] at h1; subst h1; exact hq _ _

def rowSat (p : Int) (W : List Int) (r : Rw) : Bool := fmul p (lval p W r.a.l) (lval p W r.b.l) == lval p W r.c.l
def rowsSat (p : Int) (W : List Int) (R : List Rw) : Bool := decide (∀ i, i < R.length → rowSat p W (R.getD i default) = true)
def hsum (H : List Hn) : Nat := (H.map fun h => h.a.l.length + h.b.l.length).sum
end Go.Proofs.Ytlgjnidphldiiaa
