/- Trees of notes, in plain Lean: frontiers, roots, paths. -/
import Derived.Test.YthkdaoomnfgooaaSpongeC
namespace Go.Proofs.Ythkdaoomnfgooaa

def nd (a b : Int) : Int := hash big 6 [a, b]
def emp : Nat → Int
  | 0 => hash big 6 []
  | k + 1 => nd (emp k) (emp k)
theorem bigv : vld big = true := by decide
theorem nd_bd (a b : Int) : 0 ≤ nd a b ∧ nd a b < 18446744073709551616 := hash_bd _ _ _
theorem nd_lt (a b : Int) : nd a b < big := hash_lt bigv _ _
theorem emp_bd : ∀ k, 0 ≤ emp k ∧ emp k < 18446744073709551616
  | 0 => hash_bd _ _ _
  | _ + 1 => nd_bd _ _
theorem emp_lt : ∀ k, emp k < big
  | 0 => hash_lt bigv _ _
  | _ + 1 => nd_lt _ _

/-- A leaf is appended: the entries of the levels, for a count. -/
def appL : Nat → List Int → Int → List Int
  | _, [], _ => []
  | c, l :: r, x => if c % 2 = 1 then 0 :: appL (c / 2) r (nd l x) else x :: r
/-- The root over what stands at level k: x is the node above the first place without a leaf. -/
def rootL : Nat → List Int → Int → Nat → Int
  | _, [], x, _ => x
  | c, l :: r, x, k => rootL (c / 2) r (if c % 2 = 1 then nd l x else nd x (emp k)) (k + 1)
def climbL : Nat → List Int → Int → Int
  | _, [], x => x
  | p, s :: r, x => climbL (p / 2) r (if p % 2 = 1 then nd s x else nd x s)
def pairs : List Int → List Int
  | x :: y :: r => nd x y :: pairs r
  | [_] => []
  | [] => []
def top : Nat → List Int → Int
  | 0, l => l.getD 0 0
  | d + 1, l => top d (pairs l)
def lastOdd (l : List Int) : Int := if l.length % 2 = 1 then l.getD (l.length - 1) 0 else 0
/-- The entries of the levels, after leaves. -/
def fro : Nat → List Int → List Int
  | 0, l => [lastOdd l]
  | d + 1, l => lastOdd l :: fro d (pairs l)

theorem pairs_len : ∀ l : List Int, (pairs l).length = l.length / 2
  | [] => rfl
  | [_] => by simp [pairs]
  | x :: y :: r => by simp only [pairs, List.length_cons, pairs_len r]; omega
theorem pairs_even : ∀ (a b : List Int), a.length % 2 = 0 → pairs (a ++ b) = pairs a ++ pairs b
  | [], _, _ => rfl
  | [_], _, h => by simp at h
  | x :: y :: r, b, h => by
    simp only [List.cons_append, pairs]
    rw [pairs_even r b (by simp only [List.length_cons] at h; omega)]
theorem pairs_rep (e : Int) : ∀ m, pairs (List.replicate (2 * m) e) = List.replicate m (nd e e)
  | 0 => rfl
  | m + 1 => by
    rw [show 2 * (m + 1) = 2 * m + 2 by omega, List.replicate_succ, List.replicate_succ, pairs, pairs_rep e m, List.replicate_succ]
theorem fro_len : ∀ (d : Nat) (l : List Int), (fro d l).length = d + 1
  | 0, _ => rfl
  | d + 1, l => by simp [fro, fro_len d]
theorem snoc_of_odd {l : List Int} (h : l.length % 2 = 1) : ∃ a x, l = a ++ [x] ∧ a.length % 2 = 0 ∧ lastOdd l = x := by
  have hne : l ≠ [] := by intro e; subst e; simp at h
  refine ⟨l.dropLast, l.getLast hne, (List.dropLast_concat_getLast hne).symm, by rw [List.length_dropLast]; omega, ?_⟩
  unfold lastOdd
  rw [if_pos h, List.getLast_eq_getElem, List.getD_eq_getElem?_getD, List.getElem?_eq_getElem (by omega)]
  rfl
theorem lastOdd_even {l : List Int} (h : ¬ l.length % 2 = 1) : lastOdd l = 0 := by unfold lastOdd; rw [if_neg h]
theorem lastOdd_snoc {a : List Int} (h : a.length % 2 = 0) (x : Int) : lastOdd (a ++ [x]) = x := by
  unfold lastOdd
  rw [if_pos (by simp; omega)]
  simp [List.getD_eq_getElem?_getD]

theorem fro_app : ∀ (d : Nat) (l : List Int) (x : Int), l.length < 2 ^ d → appL l.length (fro d l) x = fro d (l ++ [x])
  | 0, l, x, h => by
    obtain rfl : l = [] := List.eq_nil_of_length_eq_zero (by simpa using h)
    rfl
  | d + 1, l, x, h => by
    by_cases ho : l.length % 2 = 1
    · obtain ⟨a, y, rfl, ha, hy⟩ := snoc_of_odd ho
      have h1 : pairs (a ++ [y]) = pairs a := by rw [pairs_even a [y] ha]; simp [pairs]
      have h2 : pairs (a ++ [y] ++ [x]) = pairs a ++ [nd y x] := by
        rw [List.append_assoc, pairs_even a _ ha]; rfl
      have hl := pairs_len (a ++ [y])
      have ih := fro_app d (pairs (a ++ [y])) (nd y x) (by rw [hl]; omega)
      simp only [fro, appL]
      rw [if_pos ho, hy, ← hl, ih, h1, h2, lastOdd_even (l := a ++ [y] ++ [x]) (by simp at ho ⊢; omega)]
    · have h1 : pairs (l ++ [x]) = pairs l := by rw [pairs_even l [x] (by omega)]; simp [pairs]
      simp only [fro, appL]
      rw [if_neg ho, h1, lastOdd_snoc (by omega)]

theorem fro_nil : ∀ d, fro d [] = List.replicate (d + 1) 0
  | 0 => rfl
  | d + 1 => by
    show lastOdd [] :: fro d [] = _
    rw [fro_nil d]
    rfl

theorem root_fro : ∀ (d : Nat) (l : List Int) (x : Int) (k : Nat), l.length < 2 ^ d → rootL l.length ((fro d l).take d) x k = top d (l ++ x :: List.replicate (2 ^ d - l.length - 1) (emp k))
  | 0, l, x, k, h => by
    obtain rfl : l = [] := List.eq_nil_of_length_eq_zero (by simpa using h)
    rfl
  | d + 1, l, x, k, h => by
    have hp : 2 ^ (d + 1) = 2 * 2 ^ d := by rw [Nat.pow_succ]; omega
    have hl := pairs_len l
    have ih := fun x' => root_fro d (pairs l) x' (k + 1) (by rw [hl]; omega)
    simp only [fro, List.take_succ_cons, rootL, top]
    rw [← hl, ih]
    congr 1
    by_cases ho : l.length % 2 = 1
    · obtain ⟨a, y, rfl, ha, hy⟩ := snoc_of_odd ho
      rw [if_pos ho, hy]
      have h1 : pairs (a ++ [y]) = pairs a := by rw [pairs_even a [y] ha]; simp [pairs]
      rw [h1, List.append_assoc, pairs_even a _ ha]
      congr 1
      simp only [List.cons_append, List.nil_append, pairs]
      congr 1
      have e : 2 ^ (d + 1) - (a ++ [y]).length - 1 = 2 * (2 ^ d - (pairs a).length - 1) := by
        rw [pairs_len a, hp]; simp at ho ⊢; omega
      rw [e, pairs_rep]
      rfl
    · rw [if_neg ho, pairs_even l _ (by omega)]
      congr 1
      have e : 2 ^ (d + 1) - l.length - 1 = 2 * (2 ^ d - (pairs l).length - 1) + 1 := by rw [hl, hp]; omega
      rw [e, List.replicate_succ]
      simp only [pairs]
      rw [pairs_rep]
      rfl

theorem fro_full : ∀ (d : Nat) (l : List Int), l.length = 2 ^ d → (fro d l).getD d 0 = top d l
  | 0, l, h => by
    obtain ⟨a, rfl⟩ : ∃ a, l = [a] := by
      match l, h with
      | [a], _ => exact ⟨a, rfl⟩
    rfl
  | d + 1, l, h => by
    have hp : 2 ^ (d + 1) = 2 * 2 ^ d := by rw [Nat.pow_succ]; omega
    simp only [fro, List.getD_cons_succ, top]
    exact fro_full d (pairs l) (by rw [pairs_len]; omega)

/-- An entry of a valid frontier. -/
def entryOk (c : Nat) (x : Int) (i : Nat) : Prop := x < big ∧ (c / 2 ^ i % 2 = 0 → x = 0)
def vldL (c : Nat) (L : List Int) : Prop := ∀ i, i < L.length → entryOk c (L.getD i 0) i
instance (c : Nat) (L : List Int) : Decidable (vldL c L) := by unfold vldL entryOk; infer_instance

theorem lt_of_mem_pairs : ∀ (l : List Int), ∀ x ∈ pairs l, x < big
  | [], _, h => by cases h
  | [_], _, h => by cases h
  | x :: y :: r, z, h => by
    simp only [pairs, List.mem_cons] at h
    rcases h with rfl | h
    · exact nd_lt _ _
    · exact lt_of_mem_pairs r z h
theorem lastOdd_lt {l : List Int} (h : ∀ x ∈ l, x < big) : lastOdd l < big := by
  by_cases ho : l.length % 2 = 1
  · obtain ⟨a, x, rfl, _, e⟩ := snoc_of_odd ho
    rw [e]; exact h x (by simp)
  · rw [lastOdd_even ho]; decide
theorem fro_vld : ∀ (d : Nat) (l : List Int), (∀ x ∈ l, x < big) → vldL l.length (fro d l)
  | 0, l, h => fun i hi => by
    obtain rfl : i = 0 := by simp [fro] at hi; omega
    refine ⟨lastOdd_lt h, fun he => ?_⟩
    exact lastOdd_even (by simpa using he)
  | d + 1, l, h => fun i hi => by
    cases i with
    | zero => exact ⟨lastOdd_lt h, fun he => lastOdd_even (by simpa using he)⟩
    | succ i =>
      have ih := fro_vld d (pairs l) (lt_of_mem_pairs l) i (by simpa [fro] using hi)
      simp only [fro, List.getD_cons_succ]
      refine ⟨ih.1, fun he => ih.2 ?_⟩
      rw [pairs_len, Nat.div_div_eq_div_mul, ← Nat.pow_succ']
      exact he

/-- The root of a tree whose places are given: the way of the reference. -/
def placesL (d : Nat) (l : List Int) : List Int := l ++ List.replicate (2 ^ d - l.length) (emp 0)
theorem root_naive (d : Nat) (l : List Int) (h : l.length < 2 ^ d) : rootL l.length ((fro d l).take d) (emp 0) 0 = top d (placesL d l) := by
  rw [root_fro d l (emp 0) 0 h]
  unfold placesL
  have e : 2 ^ d - l.length = (2 ^ d - l.length - 1) + 1 := by omega
  rw [e, List.replicate_succ]
  simp

/-! Paths. -/
def pathL : Nat → List Int → Nat → List Int
  | 0, _, _ => []
  | d + 1, l, p => l.getD (if p % 2 = 1 then p - 1 else p + 1) 0 :: pathL d (pairs l) (p / 2)
theorem pairs_get : ∀ (l : List Int) (k : Nat), 2 * k + 1 < l.length → (pairs l).getD k 0 = nd (l.getD (2 * k) 0) (l.getD (2 * k + 1) 0)
  | [], _, h => by simp at h
  | [_], _, h => by simp at h
  | x :: y :: r, 0, _ => rfl
  | x :: y :: r, k + 1, h => by
    have ih := pairs_get r k (by simp only [List.length_cons] at h; omega)
    simp only [pairs, List.getD_cons_succ]
    rw [ih, show 2 * (k + 1) = (2 * k) + 1 + 1 by omega]
    rfl
theorem climb_path : ∀ (d : Nat) (l : List Int) (p : Nat), l.length = 2 ^ d → p < 2 ^ d → climbL p (pathL d l p) (l.getD p 0) = top d l
  | 0, l, p, h, hp => by
    obtain rfl : p = 0 := by simpa using hp
    rfl
  | d + 1, l, p, h, hp => by
    have hpw : 2 ^ (d + 1) = 2 * 2 ^ d := by rw [Nat.pow_succ]; omega
    have ih := climb_path d (pairs l) (p / 2) (by rw [pairs_len]; omega) (by omega)
    simp only [pathL, climbL, top]
    rw [← ih]
    congr 1
    have hg := pairs_get l (p / 2) (by omega)
    by_cases ho : p % 2 = 1
    · rw [if_pos ho, if_pos ho, hg, show 2 * (p / 2) = p - 1 by omega, show p - 1 + 1 = p by omega]
    · rw [if_neg ho, if_neg ho, hg, show 2 * (p / 2) = p by omega]

/-! Two lists of leaves with the same frontiers. -/
theorem app_det : ∀ (L : List Int) (c : Nat) (x y : Int), appL c L x = appL c L y → ¬ x = y → L ≠ [] → c % 2 = 1
  | [], _, _, _, _, _, h => absurd rfl h
  | l :: r, c, x, y, h, hne, _ => by
    by_cases ho : c % 2 = 1
    · exact ho
    · simp only [appL] at h
      rw [if_neg ho, if_neg ho] at h
      simp only [List.cons.injEq, and_true] at h
      exact absurd h hne

end Go.Proofs.Ythkdaoomnfgooaa
