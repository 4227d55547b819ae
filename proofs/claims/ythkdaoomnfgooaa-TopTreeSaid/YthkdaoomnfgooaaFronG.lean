/- Frontiers: grown, right. -/
import Derived.Test.YthkdaoomnfgooaaAwake36
namespace Go.Proofs.Ythkdaoomnfgooaa
open Go.RowKit

def rightB (d : Int) (l : List Int) : Bool := decide (1 ≤ d ∧ d ≤ 5 ∧ l.length ≤ 2 ^ d.toNat ∧ ∀ x ∈ l, x < big)

set_option maxRecDepth 10000 in
set_option maxHeartbeats 2000000 in
theorem right_any (d : Int) (ad : Option Addr) (cap : Nat) (L : List Int) (w : World) (hs : Sl w .u64 ad L) (hw : AllW L) :
    Calls Try.prog 34 #[.int .i64 d, .slice ad L.length cap] w fun e w' => e = .returned (.bool (rightB d L)) ∧ Below w.heap.size w w' := by
  have hbig : big = 18446744069414584321 := rfl
  obtain ⟨R, hR⟩ : ∃ R, R = rightB d L := ⟨_, rfl⟩
  rw [← hR]
  unfold rightB at hR
  by_cases h0 : d < 1
  · replace hR : Hid (R = false) := hide (by rw [hR, decide_eq_false]; omega)
    clear hbig
    go_enter Try.func34, Try.ntmps34
    go_wp2
    go_ret
    exact ⟨ret_bool hR.out.symm, Below.refl _ _⟩
  by_cases h1 : 5 < d
  · replace hR : Hid (R = false) := hide (by rw [hR, decide_eq_false]; omega)
    have h0' : 1 ≤ d := by omega
    clear hbig
    go_enter Try.func34, Try.ntmps34
    go_wp2
    go_ret
    exact ⟨ret_bool hR.out.symm, Below.refl _ _⟩
  obtain ⟨n, rfl⟩ := Int.eq_ofNat_of_zero_le (show 0 ≤ d by omega)
  obtain ⟨p1, p2⟩ := pow_le12 (show n ≤ 12 by omega)
  have epow : ((2 : Int) ^ n) = ((2 ^ n : Nat) : Int) := (Int.natCast_pow 2 _).symm
  rw [Int.toNat_natCast] at hR
  obtain ⟨M, hM⟩ : ∃ M : Nat, M = 2 ^ n := ⟨_, rfl⟩
  rw [← hM] at hR p1 p2
  have hwp : IntKind.i64.wrap ((2 : Int) ^ n) = M := by rw [epow, ← hM, IntKind.wrap_i64]; omega
  replace hM := hide hM
  have h0' : (1 : Int) ≤ n := by omega
  have h1' : (n : Int) ≤ 5 := by omega
  clear epow
  by_cases h2 : M < L.length
  · replace hR : Hid (R = false) := hide (by rw [hR, decide_eq_false]; omega)
    have h2' : (M : Int) < L.length := by omega
    clear hbig
    go_enter Try.func34, Try.ntmps34
    go_wp2
    go_ret
    exact ⟨ret_bool hR.out.symm, Below.refl _ _⟩
  have hyes : Hid ((∀ y ∈ L, y < big) → R = true) := hide fun h => by
    rw [hR, decide_eq_true ⟨by omega, by omega, by omega, h⟩]
  have hno : Hid (¬ (∀ y ∈ L, y < big) → R = false) := hide fun h => by
    rw [hR, decide_eq_false (fun hh => h hh.2.2.2)]
  have h2' : (L.length : Int) ≤ M := by omega
  have hl4 : L.length ≤ 4096 := by omega
  clear hR p1 p2
  replace hbig := hide hbig
  go_enter Try.func34, Try.ntmps34
  go_wp2_with fail
  clear hwp
  go_loop [22] (fun t22 => ∃ i : Nat, i ≤ L.length ∧ t22 = .int .i64 i ∧ Hid (∀ j, j < i → L.getD j 0 < big)) (fun t22 => L.length - (intOf t22).toNat)
  case atStart => exact ⟨0, by omega, rfl, hide fun j hj => absurd hj (Nat.not_lt_zero j)⟩
  case round =>
    obtain ⟨i, hi, rfl, hok⟩ := hrel
    by_cases hlt : i < L.length
    · obtain ⟨b, off, rfl, _, hc⟩ := hs.get hlt
      have hyb := hw.get hlt
      have hstop : Hid (big ≤ L.getD i 0 → R = false) := hide fun h => hno.out fun hh => by
        have := hh _ (getD_mem hlt)
        omega
      have hnext : Hid (L.getD i 0 < big → ∀ j, j < i + 1 → L.getD j 0 < big) := hide fun h => allbig_step hok.out h
      obtain ⟨y, hy⟩ : ∃ y, y = L.getD i 0 := ⟨_, rfl⟩
      rw [← hy] at hc hyb hstop hnext
      obtain ⟨y0, y1⟩ := hyb
      clear hy hok hyes hno
      by_cases hb : y < 18446744069414584321
      · have hgood : Hid (y < big) := hide (by rw [hbig.out]; exact hb)
        go_wp2
        go_round
        case rel => exact ⟨i + 1, by omega, by go_num, hide (hnext.out hgood.out)⟩
        case measure => simp [intOf]; omega
      · have hbad : Hid (R = false) := hide (hstop.out (by rw [hbig.out]; omega))
        have hb' : 18446744069414584321 ≤ y := by omega
        go_wp2
        go_ret
        exact ⟨ret_bool hbad.out.symm, Below.refl _ _⟩
    · have hx2 : Hid (R = true) := hide (hyes.out (allbig_mem fun j hj => hok.out j (by omega)))
      clear hyes hno hok
      go_wp2
      go_ret
      exact ⟨ret_bool hx2.out.symm, Below.refl _ _⟩

end Go.Proofs.Ythkdaoomnfgooaa
