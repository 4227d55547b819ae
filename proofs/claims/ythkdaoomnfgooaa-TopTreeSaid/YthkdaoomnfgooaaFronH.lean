/- Frontiers: grown. -/
import Derived.Test.YthkdaoomnfgooaaFronG
namespace Go.Proofs.Ythkdaoomnfgooaa
open Go.RowKit

theorem pairs_W : ∀ l : List Int, AllW (pairs l)
  | [], _, h => by cases h
  | [_], _, h => by cases h
  | x :: y :: r, z, h => by
    simp only [pairs, List.mem_cons] at h
    rcases h with rfl | h
    · exact nd_bd _ _
    · exact pairs_W r z h
theorem lastOdd_W {l : List Int} (h : AllW l) : 0 ≤ lastOdd l ∧ lastOdd l < 18446744073709551616 := by
  by_cases ho : l.length % 2 = 1
  · obtain ⟨a, x, rfl, _, e⟩ := snoc_of_odd ho
    rw [e]; exact h x (by simp)
  · rw [lastOdd_even ho]; exact ⟨by decide, by decide⟩
theorem fro_W : ∀ (d : Nat) (l : List Int), AllW l → AllW (fro d l)
  | 0, l, h => fun x hx => by
    simp only [fro, List.mem_cons, List.not_mem_nil, or_false] at hx
    rw [hx]; exact lastOdd_W h
  | d + 1, l, h => fun x hx => by
    simp only [fro, List.mem_cons] at hx
    rcases hx with rfl | hx
    · exact lastOdd_W h
    · exact fro_W d (pairs l) (pairs_W l) x hx

theorem fro_fvld {n : Nat} {l : List Int} (h1 : 1 ≤ n) (h2 : n ≤ 12) (hl : l.length ≤ 2 ^ n) (hb : ∀ x ∈ l, x < big) : fvld n l.length (fro n l) = true := by
  unfold fvld
  rw [decide_eq_true_iff, Int.toNat_natCast, Int.toNat_natCast]
  refine ⟨by omega, by omega, by omega, ?_, by rw [fro_len]; omega, fro_vld n l hb⟩
  have e : ((2 : Int) ^ n) = ((2 ^ n : Nat) : Int) := (Int.natCast_pow 2 n).symm
  omega

/-- What Append gives on a frontier of leaves. -/
theorem fro_append {n : Nat} {l : List Int} {x : Int} (h1 : 1 ≤ n) (h2 : n ≤ 12) (hl : l.length < 2 ^ n) (hb : ∀ x ∈ l, x < big) (hx : x < big) :
    appD n l.length (fro n l) x = n ∧ appC n l.length (fro n l) x = l.length + 1 ∧ appF n l.length (fro n l) x = fro n (l ++ [x]) ∧ appE n l.length (fro n l) x = 0 := by
  have e : ((2 : Int) ^ n) = ((2 ^ n : Nat) : Int) := (Int.natCast_pow 2 n).symm
  have hv := fro_fvld h1 h2 (Nat.le_of_lt hl) hb
  have hne : ¬ ((l.length : Int) = 2 ^ n) := by omega
  have e0 : appOk n l.length (fro n l) x = true := by
    unfold appOk
    rw [hv, decide_eq_true hx, Int.toNat_natCast, decide_eq_false hne]; rfl
  refine ⟨by unfold appD; rw [e0]; rfl, by unfold appC; rw [e0]; rfl, ?_, ?_⟩
  · unfold appF
    rw [e0, if_pos rfl, Int.toNat_natCast, fro_app n l x hl]
  · unfold appE
    rw [hv, decide_eq_true hx, Int.toNat_natCast, if_neg hne]; rfl

end Go.Proofs.Ythkdaoomnfgooaa
