/- Trees of all their places: Naive. -/
import Derived.Test.YthkdaoomnfgooaaFronN
namespace Go.Proofs.Ythkdaoomnfgooaa
open Go.RowKit

theorem pow_succ' (k : Nat) : 2 ^ (k + 1) = 2 * 2 ^ k := by rw [Nat.pow_succ]; omega

set_option maxRecDepth 10000 in
set_option maxHeartbeats 4000000 in
theorem Naive_any (n : Nat) (ad : Option Addr) (cap : Nat) (l : List Int) (w : World) (hs : Sl w .u64 ad l) (hw : AllW l) (hn : n ≤ 12) (hl : l.length ≤ 2 ^ n) :
    Calls Try.prog 36 #[.int .i64 n, .slice ad l.length cap] w fun e w' => e = .returned (.int .u64 (top n (placesL n l))) ∧ Below w.heap.size w w' := by
  have cP := fun (W : World) (hs : Sl W .u64 ad l) => Places_any n ad cap l W hs hn hl
  have hPl := places_len hl
  have hPw := places_W (n := n) hw
  have hpn := (pow_le12 hn).2
  obtain ⟨R, hR⟩ : ∃ R, R = top n (placesL n l) := ⟨_, rfl⟩
  generalize placesL n l = X at *
  rw [← hR]
  replace hR := hide hR
  clear hw hl
  go_enter Try.func36, Try.ntmps36
  go_wp2_with fail
  refine (cP w hs).mono ?_
  rintro e w1 ⟨v, rfl, o1, hb1⟩
  replace hPl := hide hPl
  clear cP
  go_wp2_with fail
  go_loopw [5] (fun t5 wr => Below w.heap.size w wr ∧ ∃ Y : List Int, ∃ k : Nat, k ≤ n ∧ Hid (Y.length = 2 ^ k) ∧ AllW Y ∧ Hid (R = top k Y) ∧ Own wr w.heap.size 30 .u64 t5 Y) (fun t5 _ => sLen t5)
  case atStart => exact ⟨hb1, X, n, Nat.le_refl _, hPl, hPw, hR, o1⟩
  case round =>
    clear hb1 o1 hPl hPw hR
    obtain ⟨hB, Y, k, hk, hY, hYw, hR, ho⟩ := hrel
    obtain ⟨a, c, rfl, sY, _, _⟩ := Own.sl ho
    have hkn : 2 ^ k ≤ 2 ^ n := Nat.pow_le_pow_right (by decide) hk
    have hYn : Y.length ≤ 4096 := by rw [hY.out]; omega
    clear hkn
    cases k with
    | zero =>
      have h1 : Hid (Y.getD 0 0 = R) := hide hR.out.symm
      have hY1 : Y.length = 1 := hY.out
      obtain ⟨b, off, rfl, _, hc⟩ := sY.get (show 0 < Y.length by omega)
      rw [h1.out, Nat.add_zero] at hc
      rw [hY1]
      go_wp2
      go_ret
      exact ⟨rfl, hB⟩
    | succ k =>
      have hlt : (1 : Int) < Y.length := by
        have := hY.out
        have := pow_succ' k
        have := Nat.one_le_two_pow (n := k)
        omega
      have cL := fun (W : World) (hs : Sl W .u64 a Y) => Level_any a c Y W hs hYw (by omega)
      have hl2 : Hid ((pairs Y).length = 2 ^ k) := hide (by rw [pairs_len, hY.out, pow_succ']; omega)
      have hR2 : Hid (R = top k (pairs Y)) := hide hR.out
      have hw2 := pairs_W Y
      have hm : (pairs Y).length < Y.length := by rw [pairs_len]; omega
      generalize pairs Y = Z at *
      clear hR hYw hpn
      go_wp2_with fail
      refine (cL wr sY).mono ?_
      rintro e w2 ⟨v2, rfl, o2, hb2⟩
      obtain ⟨a2, c2, rfl, _, _, _⟩ := Own.sl o2
      replace o2 := o2.low hB.size
      have hB2 := below2 hB hb2
      clear cL hb2 hB ho sY hYn
      go_wp2
      go_roundw
      case rel => exact ⟨hB2, Z, k, by omega, hl2, hw2, hR2, o2⟩
      case measure => simp [sLen]; omega

end Go.Proofs.Ythkdaoomnfgooaa
