/- The inverse undoes the permutation, and the other way round; equal images are of states equal modulo the prime. -/
import Derived.Test.YtaklpdhhcnnclaaInverse
namespace Go.Proofs.Ytaklpdhhcnnclaa

theorem ed {p : Int} (h : vld p = true) : ∃ K : Nat, (fexp p).toNat * (droot p).toNat = 1 + K * (p - 1).toNat := by
  rcases vld_cases h with rfl | rfl | rfl | rfl | rfl | rfl | rfl
  · exact ⟨4, by decide +kernel⟩
  · exact ⟨2, by decide +kernel⟩
  · exact ⟨4, by decide +kernel⟩
  · exact ⟨2, by decide +kernel⟩
  · exact ⟨2, by decide +kernel⟩
  · exact ⟨3, by decide +kernel⟩
  · exact ⟨2, by decide +kernel⟩

theorem emod_pow (p x : Int) : ∀ n : Nat, (x % p) ^ n % p = x ^ n % p
  | 0 => by simp
  | n + 1 => by rw [Int.pow_succ, Int.pow_succ, Int.mul_emod, emod_pow p x n, Int.emod_emod_of_dvd _ (Int.dvd_refl p), ← Int.mul_emod]

theorem fpow_eq {p : Int} (h : vld p = true) (a e : Int) : fpow p a e = a ^ e.toNat % p := by rw [fpow, if_pos h]

theorem there_back {p : Int} (h : vld p = true) (x : Int) (hx : 0 ≤ x) : fpow p (fpow p x (fexp p)) (droot p) = x % p := by
  obtain ⟨K, hK⟩ := ed h
  rw [fpow_eq h, fpow_eq h, emod_pow, ← Int.pow_mul, hK, pow_back h x K hx]

theorem back_there {p : Int} (h : vld p = true) (x : Int) (hx : 0 ≤ x) : fpow p (fpow p x (droot p)) (fexp p) = x % p := by
  obtain ⟨K, hK⟩ := ed h
  rw [fpow_eq h, fpow_eq h, emod_pow, ← Int.pow_mul, Nat.mul_comm, hK, pow_back h x K hx]

theorem ibox_sbox {p : Int} (h : vld p = true) (r i x : Int) : ibox p r i (sbox p r i x) = x % p := by
  unfold ibox sbox
  rw [there_back h _ (fadd_bd _ _ _).1, fsub_valid h, fadd_eq h, Int.emod_emod_of_dvd _ (Int.dvd_refl p), Int.emod_sub_emod]
  congr 1
  omega

theorem sbox_ibox {p : Int} (h : vld p = true) (r i x : Int) (hx : 0 ≤ x) : sbox p r i (ibox p r i x) = x % p := by
  unfold ibox sbox
  have h1 : fadd p (fsub p (fpow p x (droot p)) (fconst p r i)) (fconst p r i) = fpow p x (droot p) := by
    rw [fadd_eq h, fsub_valid h, Int.emod_add_emod, Int.sub_add_cancel, fpow_eq h, Int.emod_emod_of_dvd _ (Int.dvd_refl p)]
  rw [h1, back_there h x hx]

theorem sbox_red {p : Int} (h : vld p = true) (r i x : Int) : sbox p r i (x % p) = sbox p r i x := by
  unfold sbox
  rw [fadd_eq h, fadd_eq h, Int.emod_add_emod]

theorem ibox_red {p : Int} (h : vld p = true) (r i x : Int) : ibox p r i (x % p) = ibox p r i x := by
  unfold ibox
  rw [fpow_eq h, fpow_eq h, emod_pow]

theorem red3_valid {p : Int} (h : vld p = true) (s : T3) : red3 p s = ⟨s.a % p, s.b % p, s.c % p⟩ := by
  unfold red3
  rw [fred_valid h, fred_valid h, fred_valid h]

theorem isub3_sub3 {p : Int} (h : vld p = true) (r : Int) (s : T3) : isub3 p r (sub3 p r s) = red3 p s := by
  rw [red3_valid h]
  simp only [isub3, sub3, ibox_sbox h]
theorem sub3_isub3 {p : Int} (h : vld p = true) (r : Int) (s : T3) (hs : W3 s) : sub3 p r (isub3 p r s) = red3 p s := by
  rw [red3_valid h]
  simp only [isub3, sub3, sbox_ibox h _ _ _ hs.1.1, sbox_ibox h _ _ _ hs.2.1.1, sbox_ibox h _ _ _ hs.2.2.1]
theorem sub3_red {p : Int} (h : vld p = true) (r : Int) (s : T3) : sub3 p r (red3 p s) = sub3 p r s := by
  rw [red3_valid h]
  simp only [sub3, sbox_red h]
theorem isub3_red {p : Int} (h : vld p = true) (r : Int) (s : T3) : isub3 p r (red3 p s) = isub3 p r s := by
  rw [red3_valid h]
  simp only [isub3, ibox_red h]

theorem sum3_red {p : Int} (h : vld p = true) (s : T3) : sum3 p (red3 p s) = sum3 p s := by
  rw [sum3_valid h, sum3_valid h, red3_valid h, three_mod]
theorem mix_red {p : Int} (h : vld p = true) (s : T3) : mix p (red3 p s) = mix p s := by
  unfold mix
  rw [sum3_red h, red3_valid h]
  simp only [fadd_eq h, Int.emod_add_emod]
theorem unmix_red {p : Int} (h : vld p = true) (s : T3) : unmix p (red3 p s) = unmix p s := by
  unfold unmix
  rw [sum3_red h, red3_valid h]
  simp only [fsub_valid h, Int.emod_sub_emod]

theorem red3_red3 {p : Int} (h : vld p = true) (s : T3) : red3 p (red3 p s) = red3 p s := by
  rw [red3_valid h, red3_valid h]
  simp only [Int.emod_emod_of_dvd _ (Int.dvd_refl p)]
theorem red3_isub3 {p : Int} (h : vld p = true) (r : Int) (s : T3) : red3 p (isub3 p r s) = isub3 p r s := by
  rw [red3_valid h]
  simp only [isub3, ibox, fsub_valid h, Int.emod_emod_of_dvd _ (Int.dvd_refl p)]

theorem invN_red {p : Int} (h : vld p = true) (s : T3) : ∀ k, red3 p (invN p k (red3 p s)) = red3 p (invN p k s)
  | 0 => red3_red3 h s
  | k + 1 => by simp only [invN, unmix_red h]
theorem invN_reduced {p : Int} (h : vld p = true) : ∀ (k : Nat) (s : T3), red3 p s = s → red3 p (invN p k s) = invN p k s
  | 0, _, hs => hs
  | k + 1, _, _ => invN_reduced h k _ (red3_isub3 h _ _)

theorem invN_permN {p : Int} (h : vld p = true) (s : T3) : ∀ n, red3 p (invN p n (permN p n s)) = red3 p s
  | 0 => rfl
  | k + 1 => by
    simp only [invN, permN]
    rw [unmix_mix, isub3_red h, isub3_sub3 h, invN_red h, invN_permN h s k]

theorem permN_red {p : Int} (h : vld p = true) (s : T3) : ∀ k, permN p (k + 1) (red3 p s) = permN p (k + 1) s
  | 0 => by simp only [permN, sub3_red h]
  | k + 1 => by
    have := permN_red h s k
    simp only [permN] at this ⊢
    rw [this]

theorem permN_invN {p : Int} (h : vld p = true) : ∀ (n : Nat) (s : T3), W3 s → red3 p (permN p n (invN p n s)) = red3 p s
  | 0, _, _ => rfl
  | k + 1, s, hs => by
    simp only [invN, permN]
    have ih := permN_invN h k (isub3 p k (unmix p s)) (isub3_W3 _ _ _)
    rw [← sub3_red h, ih, sub3_red h, sub3_isub3 h _ _ (unmix_W3 _ _), mix_red h, mix_unmix, red3_red3 h]

theorem inverse_permute (p : Int) (s : T3) : inverse p (permute p s) = red3 p s := by
  by_cases h : vld p = true
  · rw [inverse, if_pos h, permute, if_pos h, ← invN_permN h s 8]
    exact (invN_reduced h 7 _ (red3_isub3 h _ _)).symm
  · have h := vld_no h
    obtain ⟨h1, _⟩ := invalid_zero h
    rw [inverse, h]
    simp [red3, h1]

theorem permute_inverse (p : Int) (s : T3) (hs : W3 s) : permute p (inverse p s) = red3 p s := by
  by_cases h : vld p = true
  · rw [inverse, if_pos h, permute, if_pos h]
    have := permN_invN h 8 s hs
    rw [← this]
    have hm : ∀ x : T3, red3 p (mix p x) = mix p x := fun x => by
      rw [red3_valid h]
      simp only [mix, fadd_eq h, Int.emod_emod_of_dvd _ (Int.dvd_refl p)]
    exact (hm _).symm
  · have h := vld_no h
    obtain ⟨h1, _⟩ := invalid_zero h
    rw [permute, h]
    simp [red3, h1]

theorem permute_red (p : Int) (s : T3) : permute p (red3 p s) = permute p s := by
  by_cases h : vld p = true
  · have h1 := permN_red h s 7
    simp only [permute, if_pos h]
    exact h1
  · simp only [permute, if_neg h]

theorem permute_differ (p : Int) (s t : T3) : (permute p s = permute p t) ↔ (red3 p s = red3 p t) :=
  ⟨fun h => (inverse_permute p s).symm.trans ((congrArg (inverse p) h).trans (inverse_permute p t)), fun h => (permute_red p s).symm.trans ((congrArg (permute p) h).trans (permute_red p t))⟩

end Go.Proofs.Ytaklpdhhcnnclaa
