/- The sponge: HashBytes, lists reduced, and what holds of hashes of reduced lists. -/
import Derived.Test.YthkdaoomnfgooaaSqueeze
import Derived.Test.YthkdaoomnfgooaaPack
import Derived.Test.YthkdaoomnfgooaaMath
namespace Go.Proofs.Ythkdaoomnfgooaa
open Go.RowKit

theorem pack_W {bs : List Int} (hw : AllB bs) (hl : bs.length < 1099511627776) : AllW (pack bs) := by
  intro x hx
  unfold pack pkL at hx
  rcases List.mem_cons.1 hx with rfl | hx
  · omega
  · obtain ⟨t, _, rfl⟩ := List.mem_map.1 hx
    have := packN_lt ((hw.drop (7 * t)).take 7) (by rw [List.length_take]; omega)
    unfold pk
    omega
theorem pack_len (bs : List Int) : (pack bs).length = 1 + (bs.length + 6) / 7 := by simp [pack, pkL]; omega

def big : Int := 18446744069414584321
def hashBytes (lb : Int) (bs : List Int) : Int := hash big lb (pack bs)

/-! ref04.Reduced. -/
def redL (p : Int) (xs : List Int) : List Int := xs.map fun x => x % p
theorem redL_snoc (p : Int) (xs : List Int) (x : Int) : redL p (xs ++ [x]) = redL p xs ++ [x % p] := by simp [redL]

/-! A hash depends on the label and the elements modulo the prime. -/
theorem fadd_mod_r (p a b : Int) : fadd p a (b % p) = fadd p a b := by
  unfold fadd; split <;> simp
theorem fmul_mod_l (p a b : Int) : fmul p (a % p) b = fmul p a b := by
  unfold fmul; split
  · rw [Int.mul_emod, Int.emod_emod_of_dvd _ (Int.dvd_refl p), ← Int.mul_emod]
  · rfl
theorem absL_red (p : Int) : ∀ (xs : List Int) (s : T3), absL p (redL p xs) s = absL p xs s
  | [], _ => rfl
  | [x], s => by simp [redL, absL, fadd_mod_r]
  | x :: y :: r, s => by
    have := absL_red p r (permute p ⟨fadd p s.a x, fadd p s.b y, s.c⟩)
    simp only [redL, List.map_cons, absL, fadd_mod_r] at this ⊢
    exact this
theorem hash_red (p lb : Int) (xs : List Int) : hash p (lb % p) (redL p xs) = hash p lb xs := by
  unfold hash absorb absF absI
  have e : (redL p xs).length = xs.length := by simp [redL]
  have e2 : redL p xs = [] ↔ xs = [] := by simp [redL]
  simp only [e, fmul_mod_l, List.drop_zero, absL_red, e2]

theorem mix_lt {p : Int} (hv : vld p = true) (s : T3) : (mix p s).a < p ∧ (mix p s).b < p ∧ (mix p s).c < p := by
  have hp := vld_pos hv
  have h : ∀ a b, fadd p a b < p := fun a b => by rw [fadd_eq hv]; exact Int.emod_lt_of_pos _ (by omega)
  exact ⟨h _ _, h _ _, h _ _⟩
theorem permute_lt {p : Int} (hv : vld p = true) (s : T3) : (permute p s).a < p ∧ (permute p s).b < p ∧ (permute p s).c < p := by
  unfold permute
  rw [if_pos hv]
  have := permN_succ p 7 s (by decide)
  have e8 : ((7 : Int) + 1).toNat = 8 := rfl
  rw [e8] at this
  rw [this]
  exact mix_lt hv _
theorem absL_lt {p : Int} (hv : vld p = true) : ∀ (xs : List Int) (s : T3), (s.a < p ∧ s.b < p ∧ s.c < p) → (absL p xs s).a < p ∧ (absL p xs s).b < p ∧ (absL p xs s).c < p
  | [], _, h => h
  | [_], _, _ => permute_lt hv _
  | _ :: _ :: r, _, _ => absL_lt hv r _ (permute_lt hv _)
theorem absorb_lt {p : Int} (hv : vld p = true) (lb : Int) (xs : List Int) : (absorb p lb xs).a < p ∧ (absorb p lb xs).b < p ∧ (absorb p lb xs).c < p := by
  unfold absorb absF
  split
  · exact permute_lt hv _
  · have hp := vld_pos hv
    exact absL_lt hv _ _ ⟨by simp [absI]; omega, by simp [absI]; omega, by simp only [absI]; rw [fadd_eq hv]; exact Int.emod_lt_of_pos _ (by omega)⟩
theorem hash_lt {p : Int} (hv : vld p = true) (lb : Int) (xs : List Int) : hash p lb xs < p := by
  unfold hash
  rw [if_pos hv]
  exact (absorb_lt hv lb xs).1

end Go.Proofs.Ythkdaoomnfgooaa
