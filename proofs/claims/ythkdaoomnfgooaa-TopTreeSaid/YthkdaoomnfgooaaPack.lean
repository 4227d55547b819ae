/- The sponge: Pack, in the program and in the reference. -/
import Derived.Test.YthkdaoomnfgooaaList
import Derived.WalkLawsBesides
namespace Go.Proofs.Ythkdaoomnfgooaa
open Go.RowKit

/-- Digits of base 256, the lowest first. -/
def packN : List Int → Int
  | [] => 0
  | b :: r => b + 256 * packN r
def pk (bs : List Int) (t : Nat) : Int := packN ((bs.drop (7 * t)).take 7)
def pkL (bs : List Int) (j : Nat) : List Int := (bs.length : Int) :: (List.range j).map (pk bs)
def pack (bs : List Int) : List Int := pkL bs ((bs.length + 6) / 7)

def AllB (xs : List Int) : Prop := ∀ x ∈ xs, 0 ≤ x ∧ x < 256
theorem AllB.get {xs : List Int} (h : AllB xs) {i : Nat} (hi : i < xs.length) : 0 ≤ xs.getD i 0 ∧ xs.getD i 0 < 256 := by
  rw [List.getD_eq_getElem?_getD, List.getElem?_eq_getElem hi]
  exact h _ (List.getElem_mem hi)
theorem AllB.take {xs : List Int} (h : AllB xs) (n : Nat) : AllB (xs.take n) := fun x hx => h x (List.mem_of_mem_take hx)
theorem AllB.drop {xs : List Int} (h : AllB xs) (n : Nat) : AllB (xs.drop n) := fun x hx => h x (List.mem_of_mem_drop hx)

theorem packN_snoc : ∀ (l : List Int) (d : Int), packN (l ++ [d]) = packN l + d * 256 ^ l.length
  | [], d => by simp [packN]
  | b :: r, d => by
    have := packN_snoc r d
    simp only [List.cons_append, packN, this, List.length_cons, Int.pow_succ]
    rw [Int.mul_add, ← Int.add_assoc]
    congr 1
    rw [Int.mul_comm 256, Int.mul_assoc]

theorem packN_bd : ∀ (l : List Int), AllB l → 0 ≤ packN l ∧ packN l < 256 ^ l.length
  | [], _ => by simp [packN]
  | b :: r, h => by
    have h1 := packN_bd r fun x hx => h x (by simp [hx])
    have h2 := h b (by simp)
    simp only [packN, List.length_cons, Int.pow_succ]
    omega

theorem pow256_le {n : Nat} (h : n ≤ 7) : (256 : Int) ^ n ≤ 72057594037927936 := by
  have : n = 0 ∨ n = 1 ∨ n = 2 ∨ n = 3 ∨ n = 4 ∨ n = 5 ∨ n = 6 ∨ n = 7 := by omega
  rcases this with rfl | rfl | rfl | rfl | rfl | rfl | rfl | rfl <;> decide

theorem packN_lt {l : List Int} (h : AllB l) (hl : l.length ≤ 7) : 0 ≤ packN l ∧ packN l < 72057594037927936 := by
  have h1 := packN_bd l h
  have h2 := pow256_le hl
  exact ⟨h1.1, by omega⟩

theorem pkL_succ (bs : List Int) (j : Nat) : pkL bs (j + 1) = pkL bs j ++ [pk bs j] := by
  simp [pkL, List.range_succ]

theorem pow_two_256 (i : Nat) : (2 : Int) ^ (8 * i) = 256 ^ i := by
  rw [Int.pow_mul]; rfl

theorem or_digit (q d : Int) (i : Nat) (hi : i ≤ 6) (hq : 0 ≤ q ∧ q < 256 ^ i) (hd : 0 ≤ d ∧ d < 256) : bits .or .u64 q (IntKind.u64.wrap (d * 2 ^ (8 * i))) = q + d * 256 ^ i := by
  obtain ⟨Q, rfl⟩ := Int.eq_ofNat_of_zero_le hq.1
  obtain ⟨D, rfl⟩ := Int.eq_ofNat_of_zero_le hd.1
  have hD : D < 256 := by omega
  have e : ((256 : Int) ^ i) = ((2 ^ (8 * i) : Nat) : Int) := by
    rw [← pow_two_256]; exact (Int.natCast_pow 2 (8 * i)).symm
  have hQ : Q < 2 ^ (8 * i) := by
    have := hq.2
    rw [e] at this
    omega
  have hp : 2 ^ (8 * i) ≤ 2 ^ 48 := Nat.pow_le_pow_right (by decide) (by omega)
  have hD2 : D * 2 ^ (8 * i) ≤ 255 * 2 ^ 48 := Nat.mul_le_mul (by omega) hp
  have h2 := Nat.two_pow_add_eq_or_of_lt hQ D
  rw [pow_two_256, e]
  have hM : 2 ^ (8 * i) * D ≤ 281474976710656 * 255 := by
    rw [Nat.mul_comm]
    have : D * 2 ^ (8 * i) ≤ 255 * 281474976710656 := hD2
    omega
  have hQ2 : Q < 281474976710656 := Nat.lt_of_lt_of_le hQ hp
  generalize 2 ^ (8 * i) = M at *
  have hw : IntKind.u64.wrap ((D : Int) * (M : Int)) = ((M * D : Nat) : Int) := by
    rw [IntKind.wrap_u64, ← Int.natCast_mul, Nat.mul_comm]
    omega
  rw [hw, u64_or_nat Q (M * D) (by omega) (by omega), Nat.or_comm, ← h2, ← Int.natCast_mul, Nat.mul_comm D M]
  omega

/-! The reference. -/
def seg (bs : List Int) (i t : Nat) : Int := packN ((bs.drop (7 * t)).take (min 7 (i - 7 * t)))
def rkL (bs : List Int) (i : Nat) : List Int := (bs.length : Int) :: (List.range ((i + 6) / 7)).map (seg bs i)
def rk1 (bs : List Int) (i : Nat) : List Int := (bs.length : Int) :: (List.range (i / 7 + 1)).map (seg bs i)

theorem rk1_zero (bs : List Int) (i : Nat) (h : i % 7 = 0) : rk1 bs i = rkL bs i ++ [0] := by
  have e : (i + 6) / 7 = i / 7 := by omega
  have e2 : min 7 (i - 7 * (i / 7)) = 0 := by omega
  simp [rk1, rkL, e, List.range_succ, seg, e2, packN]
theorem rk1_pos (bs : List Int) (i : Nat) (h : ¬ i % 7 = 0) : rkL bs i = rk1 bs i := by
  have e : (i + 6) / 7 = i / 7 + 1 := by omega
  simp [rk1, rkL, e]
theorem rk1_len (bs : List Int) (i : Nat) : (rk1 bs i).length = i / 7 + 2 := by simp [rk1]
theorem rk1_get (bs : List Int) (i : Nat) : (rk1 bs i).getD (i / 7 + 1) 0 = seg bs i (i / 7) := by
  simp [rk1, List.getD_eq_getElem?_getD]
theorem seg_bd (bs : List Int) (hw : AllB bs) (i t : Nat) : 0 ≤ seg bs i t ∧ seg bs i t < 72057594037927936 := by
  unfold seg
  exact packN_lt ((hw.drop _).take _) (by rw [List.length_take]; omega)
theorem seg_step (bs : List Int) (i : Nat) (h : i < bs.length) : seg bs (i + 1) (i / 7) = seg bs i (i / 7) + bs.getD i 0 * 256 ^ (i % 7) := by
  have e1 : min 7 (i - 7 * (i / 7)) = i % 7 := by omega
  have e2 : min 7 (i + 1 - 7 * (i / 7)) = i % 7 + 1 := by omega
  unfold seg
  rw [e1, e2, take_succ_getD _ 0 (by rw [List.length_drop]; omega), packN_snoc, List.length_take, List.length_drop]
  have e3 : min (i % 7) (bs.length - 7 * (i / 7)) = i % 7 := by omega
  have e4 : (bs.drop (7 * (i / 7))).getD (i % 7) 0 = bs.getD i 0 := by
    simp only [List.getD_eq_getElem?_getD, List.getElem?_drop]
    rw [show 7 * (i / 7) + i % 7 = i by omega]
  rw [e3, e4]
theorem rk1_set (bs : List Int) (i : Nat) : (rk1 bs i).set (i / 7 + 1) (seg bs (i + 1) (i / 7)) = rkL bs (i + 1) := by
  have e : (i + 1 + 6) / 7 = i / 7 + 1 := by omega
  unfold rk1 rkL
  rw [e, List.set_cons_succ]
  congr 1
  refine List.ext_getElem (by simp) fun t h1 h2 => ?_
  rw [List.getElem_set]
  simp only [List.getElem_map, List.getElem_range]
  by_cases h : i / 7 = t
  · rw [if_pos h, h]
  · rw [if_neg h]
    have ht : t < i / 7 + 1 := by simpa using h1
    have a1 : min 7 (i - 7 * t) = 7 := by omega
    have a2 : min 7 (i + 1 - 7 * t) = 7 := by omega
    unfold seg
    rw [a1, a2]
theorem rkL_full (bs : List Int) : rkL bs bs.length = pack bs := by
  unfold rkL pack pkL
  congr 1
  refine List.map_congr_left fun t _ => ?_
  unfold seg pk
  congr 1
  rw [List.take_eq_take_iff]
  simp only [List.length_drop]
  omega

theorem Own.open_ {w : World} {base : Nat} {E : TypeId} {k : IntKind} {v : Value} {xs : List Int} {N : Nat} (h : Own w base E k v xs) (hN : xs.length = N) (h0 : 0 < N) : ∃ g cap, v = .slice (some ⟨g, 0, none⟩) N cap ∧ base ≤ g := by
  rcases h.form with ⟨rfl, rfl⟩ | ⟨g, cap, cur, rfl, h1, _⟩
  · simp at hN; omega
  · exact ⟨g, cap, by rw [hN], h1⟩

end Go.Proofs.Ythkdaoomnfgooaa
