/- Circuits: what an assignment that hints determine is, in plain Lean. -/
import Derived.Test.YtlflkddgdbdebaaCircO
import Derived.Test.YtlflkddgdbdebaaFermat
namespace Go.Proofs.Ytlflkddgdbdebaa
open Go.RowKit

theorem fermat_of {P g : Nat} {qs : List Nat} (G : Gen P g qs) (n : Nat) (hn : (n : Int) % (P : Int) ≠ 0) : (n : Int) ^ ((P : Int) - 1).toNat % (P : Int) = 1 := by
  have h : ((P : Int) - 1).toNat = P - 1 := by omega
  have hn' : n % P ≠ 0 := fun e => hn (by rw [← Int.natCast_emod, e]; rfl)
  rw [h, ← Int.natCast_pow, ← Int.natCast_emod, G.fermat n hn']
  rfl
theorem fermat {p : Int} (h : vld p = true) (x : Int) (hx : 0 ≤ x) (hn : x % p ≠ 0) : x ^ (p - 1).toNat % p = 1 := by
  obtain ⟨n, rfl⟩ := Int.eq_ofNat_of_zero_le hx
  rcases vld_cases h with rfl | rfl | rfl | rfl | rfl | rfl | rfl
  · exact fermat_of genBig n hn
  · exact fermat_of gen17 n hn
  · exact fermat_of gen97 n hn
  · exact fermat_of gen193 n hn
  · exact fermat_of gen257 n hn
  · exact fermat_of gen12289 n hn
  · exact fermat_of gen65537 n hn
/-- The inverse. -/
theorem fmul_finv {p a : Int} (h : vld p = true) (h0 : 0 < a) (h1 : a < p) : fmul p a (finv p a) = 1 := by
  have hp := vld_pos h
  rw [fmul_eq h, finv, if_pos h]
  have e : a ^ (p - 1).toNat = a * a ^ (p - 2).toNat := by
    rw [show (p - 1).toNat = (p - 2).toNat + 1 by omega, Int.pow_succ, Int.mul_comm]
  have := fermat h a (by omega) (by rw [Int.emod_eq_of_lt (by omega) h1]; omega)
  rw [e] at this
  rw [Int.mul_emod, Int.emod_emod_of_dvd _ (Int.dvd_refl p), ← Int.mul_emod]
  exact this
theorem finv_zero {p : Int} (h : vld p = true) : finv p 0 = 0 := by
  have hp := vld_pos h
  rw [finv, if_pos h, show (p - 2).toNat = (p - 3).toNat + 1 by omega, Int.pow_succ, Int.mul_zero, Int.zero_emod]

/-- A hint's value does not see what is appended. -/
theorem hval_app {p : Int} {W : List Int} (X : List Int) {h : Hn} (e : hintOk p W.length h = true) : hval p (W ++ X) h = hval p W h := by
  obtain ⟨h1, h2⟩ := hint_cases e
  have ea := lval_app X h1 (Int.le_refl _)
  unfold hval
  rw [ea]
  rcases h2 with ⟨k, hb⟩ | k | ⟨k, _⟩
  · rw [if_pos k, if_pos k, lval_app X hb (Int.le_refl _)]
  · have hk : ¬ h.k = 1 := by omega
    simp only [if_neg hk]
  · have hk : ¬ h.k = 1 := by omega
    simp only [if_neg hk]
theorem getD_append_len {W X : List Int} {x : Int} : (W ++ [x] ++ X).getD W.length 0 = x := by
  rw [List.getD_eq_getElem?_getD, List.append_assoc, List.getElem?_append_right (Nat.le_refl _), Nat.sub_self]
  rfl
/-- Each further variable has its hint's value. -/
theorem runH_get {p : Int} {W : List Int} {H : List Hn} (hok : ∀ i, i < H.length → hintOk p ((W.length : Int) + i) (H.getD i default) = true) {i : Nat} (hi : i < H.length) :
    (runH p W H).getD (W.length + i) 0 = hval p (runH p W H) (H.getD i default) := by
  have e1 : runH p W H = runH p (runH p W (H.take (i + 1))) (H.drop (i + 1)) := by rw [← runH_app, List.take_append_drop]
  rw [runH_step p W H hi] at e1
  obtain ⟨X, hX⟩ := runH_pre p (runH p W (H.take i) ++ [hval p (runH p W (H.take i)) (H.getD i default)]) (H.drop (i + 1))
  rw [hX] at e1
  have hl := runH_len p W (H.take i)
  rw [List.length_take, show min i H.length = i by omega] at hl
  have hk := hok i hi
  rw [← Int.natCast_add, ← hl] at hk
  rw [e1, ← hl, getD_append_len, List.append_assoc, hval_app _ hk]
theorem runH_take {p : Int} {W : List Int} {H : List Hn} : (runH p W H).take W.length = W := by
  obtain ⟨X, hX⟩ := runH_pre p W H
  rw [hX, List.take_left']
  rfl
theorem sl_take {w : World} {k : IntKind} {a : Option Addr} {xs : List Int} (h : Sl w k a xs) (n : Nat) : Sl w k a (xs.take n) := fun h0 => by
  rw [List.length_take] at h0
  obtain ⟨b, off, e, hb, hc⟩ := h (by omega)
  refine ⟨b, off, e, hb, fun i hi => ?_⟩
  rw [List.length_take] at hi
  rw [hc i (by omega), List.getD_eq_getElem?_getD, List.getD_eq_getElem?_getD, List.getElem?_take_of_lt (by omega)]
end Go.Proofs.Ytlflkddgdbdebaa
