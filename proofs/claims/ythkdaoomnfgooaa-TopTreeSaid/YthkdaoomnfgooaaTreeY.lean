/- Trees of leaves: the path of a leaf leads to the root; Climb of the reference. -/
import Derived.Test.YthkdaoomnfgooaaTreeZ
namespace Go.Proofs.Ythkdaoomnfgooaa
open Go.RowKit

theorem tpath_get {n : Nat} {m : List Int} {q k : Nat} (h : k < n) : (tpath n m q).getD k 0 = dig k (sib (q / 2 ^ k)) m := by
  unfold tpath
  rw [List.getD_eq_getElem?_getD, List.getElem?_map, List.getElem?_range h]; rfl
theorem climb_tp (n : Nat) (m : List Int) (q : Nat) : ∀ (r k : Nat), k + r = n → climbL (q / 2 ^ k) ((tpath n m q).drop k) (dig k (q / 2 ^ k) m) = dig n (q / 2 ^ n) m
  | 0, k, h => by
    obtain rfl : k = n := by omega
    exact climb_end (by rw [tpath_len]; exact Nat.le_refl _)
  | r + 1, k, h => by
    rw [climb_step (by rw [tpath_len]; omega), tpath_get (show k < n by omega), ← climb_tp n m q r (k + 1) (by omega)]
    congr 1
    have e : dig (k + 1) (q / 2 ^ (k + 1)) m = nd (dig k (2 * (q / 2 ^ (k + 1))) m) (dig k (2 * (q / 2 ^ (k + 1)) + 1) m) := rfl
    rw [e, ← half_pow]
    generalize q / 2 ^ k = j
    unfold sib
    by_cases ho : j % 2 = 1
    · rw [if_pos ho, if_pos ho, show 2 * (j / 2) = j - 1 by omega, show j - 1 + 1 = j by omega]
    · rw [if_neg ho, if_neg ho, show 2 * (j / 2) = j by omega]
theorem climb_leaf {n : Nat} {m : List Int} {q : Nat} (hq : q < m.length) (hm : m.length ≤ 2 ^ n) : climbL q (tpath n m q) (m.getD q 0) = dig n 0 m := by
  have h := climb_tp n m q n 0 (by omega)
  have e : q / 2 ^ n = 0 := Nat.div_eq_of_lt (by omega)
  have e2 : dig 0 (q / 2 ^ 0) m = m.getD q 0 := by rw [Nat.pow_zero, Nat.div_one, dig, if_pos hq]
  rw [e, e2, Nat.pow_zero, Nat.div_one, List.drop_zero] at h
  exact h
theorem dig_lt {m : List Int} (h : ∀ x ∈ m, x < big) : ∀ k j, dig k j m < big
  | 0, j => by
    unfold dig
    split
    · exact h _ (getD_mem (by assumption))
    · exact emp_lt 0
  | _ + 1, _ => nd_lt _ _
theorem tpath_big {n : Nat} {m : List Int} {q : Nat} (h : ∀ x ∈ m, x < big) : ∀ x ∈ tpath n m q, x < big := fun x hx => by
  unfold tpath at hx
  obtain ⟨k, _, rfl⟩ := List.mem_map.1 hx
  exact dig_lt h _ _
theorem fclimb_leaf {n : Nat} {m : List Int} {q : Nat} (h2 : n ≤ 12) (hq : q < m.length) (hm : m.length ≤ 2 ^ n) (hb : ∀ x ∈ m, x < big) : fclimb (m.getD q 0) q (tpath n m q) = dig n 0 m := by
  have e : ((2 : Int) ^ n) = ((2 ^ n : Nat) : Int) := (Int.natCast_pow 2 n).symm
  unfold fclimb
  rw [tpath_len, if_pos ⟨h2, by omega, by omega, hb _ (getD_mem hq), tpath_big hb⟩, Int.toNat_natCast]
  exact climb_leaf hq hm

/-- A tree over a function. -/
def digF : Nat → Nat → (Nat → Int) → Int
  | 0, j, f => f j
  | k + 1, j, f => nd (digF k (2 * j) f) (digF k (2 * j + 1) f)
theorem dig_F : ∀ (k j : Nat) (m : List Int), dig k j m = digF k j (fun i => gd m (emp 0) i)
  | 0, _, _ => rfl
  | k + 1, j, m => by rw [dig, digF, dig_F k, dig_F k]
theorem digF_up : ∀ (k j : Nat) (f : Nat → Int), digF (k + 1) j f = digF k j (fun i => nd (f (2 * i)) (f (2 * i + 1)))
  | 0, _, _ => rfl
  | k + 1, j, f => by rw [digF, digF_up k, digF_up k]; rfl
theorem digF_congr : ∀ (k j : Nat) (f g : Nat → Int), (∀ i, i < (j + 1) * 2 ^ k → f i = g i) → digF k j f = digF k j g
  | 0, j, f, g, h => h j (by simp)
  | k + 1, j, f, g, h => by
    have e : (j + 1) * 2 ^ (k + 1) = (2 * j + 1 + 1) * 2 ^ k := by rw [Nat.pow_succ, Nat.mul_comm (2 ^ k) 2, ← Nat.mul_assoc]; congr 1; omega
    have e3 : (2 * j + 1) * 2 ^ k ≤ (2 * j + 1 + 1) * 2 ^ k := Nat.mul_le_mul_right _ (by omega)
    rw [digF, digF, digF_congr k (2 * j) f g fun i hi => h i (by rw [e]; exact Nat.lt_of_lt_of_le hi e3), digF_congr k (2 * j + 1) f g fun i hi => h i (by rw [e]; exact hi)]
theorem top_F : ∀ (d : Nat) (P : List Int), P.length = 2 ^ d → top d P = digF d 0 (fun i => P.getD i 0)
  | 0, _, _ => rfl
  | d + 1, P, h => by
    have hp := pow_succ' d
    rw [top, top_F d (pairs P) (by rw [pairs_len]; omega), digF_up]
    refine digF_congr d 0 _ _ fun i hi => ?_
    exact pairs_get P i (by omega)
theorem dig_top {n : Nat} {m : List Int} (h : m.length ≤ 2 ^ n) : dig n 0 m = top n (placesL n m) := by
  rw [dig_F, top_F n _ (places_len h)]
  refine digF_congr n 0 _ _ fun i hi => ?_
  unfold gd placesL
  simp only [List.getD_eq_getElem?_getD]
  by_cases hl : i < m.length
  · rw [if_pos hl, List.getElem?_append_left hl]
  · rw [if_neg hl, List.getElem?_append_right (by omega), List.getElem?_replicate, if_pos (by omega)]; rfl

set_option maxRecDepth 10000 in
set_option maxHeartbeats 4000000 in
theorem rTClimb_any (x : Int) (q : Nat) (ad : Option Addr) (cap : Nat) (L : List Int) (w : World) (hx : 0 ≤ x ∧ x < 18446744073709551616) (hs : Sl w .u64 ad L) (hw : AllW L) (hl : L.length ≤ 60) :
    Calls Try.prog 53 #[.int .u64 x, .int .i64 q, .slice ad L.length cap] w fun e w' => e = .returned (.int .u64 (climbL q L x)) ∧ Below w.heap.size w w' := by
  obtain ⟨R, hR⟩ : ∃ R, R = climbL q L x := ⟨_, rfl⟩
  have hx2 : Hid (climbL (q / 2 ^ 0) (L.drop 0) x = R) := hide (by rw [hR]; simp)
  rw [← hR]
  clear hR
  go_enter Try.func53, Try.ntmps53
  go_wp2_with fail
  go_loopw [0, 7] (fun t0 t7 wr => ∃ k : Nat, k ≤ L.length ∧ t7 = .int .i64 k ∧ (∃ z : Int, (0 ≤ z ∧ z < 18446744073709551616) ∧ t0 = .int .u64 z ∧ Hid (climbL (q / 2 ^ k) (L.drop k) z = R)) ∧ Below w.heap.size w wr) (fun _ t7 _ => L.length - (intOf t7).toNat)
  case atStart => exact ⟨0, by omega, rfl, ⟨x, hx, rfl, hx2⟩, Below.refl _ _⟩
  case round =>
    clear hx2 hx
    obtain ⟨k, hk, rfl, ⟨z, hz, rfl, hz2⟩, hB⟩ := hrel
    by_cases hlt : k < L.length
    · have hst := climb_step (q := q) (x := z) hlt
      rw [hz2.out] at hst
      have hk0 : (0 : Int) ≤ k := by omega
      have hk60 : (k : Int) ≤ 60 := by omega
      obtain ⟨b, off, rfl, _, hc⟩ := (hs.mono hB).get hlt
      have hyb := hw.get hlt
      obtain ⟨y, hy⟩ : ∃ y, y = L.getD k 0 := ⟨_, rfl⟩
      rw [← hy] at hc hyb hst
      have hm : ((q : Int) / 2 ^ k).tmod 2 = ((q / 2 ^ k % 2 : Nat) : Int) := by
        have e : ((2 : Int) ^ k) = ((2 ^ k : Nat) : Int) := (Int.natCast_pow 2 k).symm
        rw [e, ← Int.natCast_ediv, Int.tmod_eq_emod_of_nonneg (Int.natCast_nonneg _)]
        rfl
      obtain ⟨r, hr⟩ : ∃ r, r = q / 2 ^ k % 2 := ⟨_, rfl⟩
      rw [← hr] at hst hm
      have hr2 : r = 0 ∨ r = 1 := by omega
      clear hy hz2
      replace hr := hide hr
      rcases hr2 with rfl | rfl
      · rw [if_neg (by decide)] at hst
        have cH := fun (ad : Option Addr) (W : World) h => rHash_any big 6 ad 2 [z, y] W (by decide) (by decide) h (pair_W hz hyb) (by simp)
        have eH : hash big 6 [z, y] = nd z y := rfl
        rw [eH] at cH
        have hn1 := nd_bd z y
        generalize nd z y = v at *
        replace hst := hide hst.symm
        clear eH
        go_wp2_with fail
        refine name_calls fun W hW => ?_
        replace hB : Below w.heap.size w W := by rw [hW]; exact hB.alloc hB.size _
        have g0 : Blk W wr.heap.size #[.int .u64 z, .int .u64 y] 30 := by rw [hW]; exact Blk.newAt rfl
        have s0 := Sl.blk (k := .u64) [z, y] g0 rfl
        clear hW g0 hc
        refine (cH _ W s0).mono ?_
        rintro e w6 ⟨rfl, hb6⟩
        clear cH s0
        go_wp2
        go_roundw
        case rel => exact ⟨k + 1, by omega, by go_num, ⟨_, hn1, rfl, hide hst.out⟩, below2 hB hb6⟩
        case measure => simp [intOf]; omega
      · rw [if_pos rfl] at hst
        have cH := fun (ad : Option Addr) (W : World) h => rHash_any big 6 ad 2 [y, z] W (by decide) (by decide) h (pair_W hyb hz) (by simp)
        have eH : hash big 6 [y, z] = nd y z := rfl
        rw [eH] at cH
        have hn1 := nd_bd y z
        generalize nd y z = v at *
        replace hst := hide hst.symm
        clear eH
        go_wp2_with fail
        refine name_calls fun W hW => ?_
        replace hB : Below w.heap.size w W := by rw [hW]; exact hB.alloc hB.size _
        have g0 : Blk W wr.heap.size #[.int .u64 y, .int .u64 z] 30 := by rw [hW]; exact Blk.newAt rfl
        have s0 := Sl.blk (k := .u64) [y, z] g0 rfl
        clear hW g0 hc
        refine (cH _ W s0).mono ?_
        rintro e w6 ⟨rfl, hb6⟩
        clear cH s0
        go_wp2
        go_roundw
        case rel => exact ⟨k + 1, by omega, by go_num, ⟨_, hn1, rfl, hide hst.out⟩, below2 hB hb6⟩
        case measure => simp [intOf]; omega
    · have hfin := climb_end (q := q) (i := k) (x := z) (show L.length ≤ k by omega)
      rw [hz2.out] at hfin
      subst hfin
      go_wp2
      go_ret
      exact ⟨rfl, hB⟩

end Go.Proofs.Ythkdaoomnfgooaa
