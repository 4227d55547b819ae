/- The root of the frontier of leaves; the path of a place. -/
import Derived.Test.YthkdaoomnfgooaaFronP
namespace Go.Proofs.Ythkdaoomnfgooaa
open Go.RowKit

theorem froot_fro' {n : Nat} {l : List Int} (h1 : 1 ≤ n) (h2 : n ≤ 12) (hl : l.length ≤ 2 ^ n) (hb : ∀ x ∈ l, x < big) : froot n l.length (fro n l) = top n (placesL n l) := by
  have e : ((2 : Int) ^ n) = ((2 ^ n : Nat) : Int) := (Int.natCast_pow 2 n).symm
  unfold froot
  rw [if_pos (fro_fvld h1 h2 hl hb), Int.toNat_natCast, Int.toNat_natCast]
  by_cases hf : l.length = 2 ^ n
  · rw [if_pos (by omega), fro_full n l hf]
    unfold placesL
    rw [hf, Nat.sub_self]
    simp
  · rw [if_neg (by omega), root_naive n l (by omega)]

theorem places_big {n : Nat} {l : List Int} (h : ∀ x ∈ l, x < big) : ∀ x ∈ placesL n l, x < big := fun x hx => by
  unfold placesL at hx
  rcases List.mem_append.1 hx with h1 | h1
  · exact h x h1
  · rw [(List.mem_replicate.1 h1).2]; exact emp_lt 0
theorem path_big : ∀ (d : Nat) (l : List Int) (p : Nat), (∀ x ∈ l, x < big) → ∀ x ∈ pathL d l p, x < big
  | 0, _, _, _, x, h => by cases h
  | d + 1, l, p, hw, x, h => by
    simp only [pathL, List.mem_cons] at h
    rcases h with rfl | h
    · rcases Nat.lt_or_ge (if p % 2 = 1 then p - 1 else p + 1) l.length with h1 | h1
      · exact hw _ (getD_mem h1)
      · rw [List.getD_eq_getElem?_getD, List.getElem?_eq_none h1]; decide
    · exact path_big d (pairs l) (p / 2) (lt_of_mem_pairs l) x h
theorem fclimb_path {n p : Nat} {l : List Int} (h2 : n ≤ 12) (hl : l.length ≤ 2 ^ n) (hb : ∀ x ∈ l, x < big) (hp : p < 2 ^ n) :
    fclimb ((placesL n l).getD p 0) p (pathL n (placesL n l) p) = top n (placesL n l) := by
  have hpl := places_len hl
  have e : ((2 : Int) ^ n) = ((2 ^ n : Nat) : Int) := (Int.natCast_pow 2 n).symm
  unfold fclimb
  rw [path_len, if_pos ⟨h2, by omega, by omega, places_big hb _ (getD_mem (by omega)), path_big _ _ _ (places_big hb)⟩, Int.toNat_natCast]
  exact climb_path n (placesL n l) p hpl hp

end Go.Proofs.Ythkdaoomnfgooaa
