/- Frontiers: Climb. -/
import Derived.Test.YthkdaoomnfgooaaFronR
namespace Go.Proofs.Ythkdaoomnfgooaa
open Go.RowKit

theorem allbig_step {L : List Int} {i : Nat} (h : ∀ j, j < i → L.getD j 0 < big) (h1 : L.getD i 0 < big) : ∀ j, j < i + 1 → L.getD j 0 < big := fun j hj => by
  by_cases e : j = i
  · rw [e]; exact h1
  · exact h j (by omega)
theorem allbig_mem {L : List Int} (h : ∀ j, j < L.length → L.getD j 0 < big) : ∀ y ∈ L, y < big := fun y hy => by
  obtain ⟨j, hj, rfl⟩ := List.getElem_of_mem hy
  have := h j hj
  rwa [List.getD_eq_getElem?_getD, List.getElem?_eq_getElem hj] at this
theorem getD_mem {L : List Int} {i : Nat} (h : i < L.length) : L.getD i 0 ∈ L := by
  rw [List.getD_eq_getElem?_getD, List.getElem?_eq_getElem h]
  exact List.getElem_mem h

set_option maxRecDepth 10000 in
set_option maxHeartbeats 4000000 in
theorem Climb_any (x p : Int) (ad : Option Addr) (cap : Nat) (L : List Int) (w : World) (hx : 0 ≤ x ∧ x < 18446744073709551616) (hp : p < 9223372036854775808) (hs : Sl w .u64 ad L) (hw : AllW L) (hl : L.length < 1099511627776) :
    Calls Try.prog 39 #[.int .u64 x, .int .i64 p, .slice ad L.length cap] w fun e w' => e = .returned (.int .u64 (fclimb x p L)) ∧ Below w.heap.size w w' := by
  obtain ⟨R, hR⟩ : ∃ R, R = fclimb x p L := ⟨_, rfl⟩
  rw [← hR]
  unfold fclimb at hR
  have hbig : big = 18446744069414584321 := rfl
  by_cases c1 : 12 < L.length
  · replace hR : Hid (R = 0) := hide (by rw [hR, if_neg (by omega)])
    have c1' : (12 : Int) < L.length := by omega
    clear hp hbig
    go_enter Try.func39, Try.ntmps39
    go_wp2
    go_ret
    exact ⟨ret_int hR.out.symm, Below.refl _ _⟩
  by_cases c2 : p < 0
  · replace hR : Hid (R = 0) := hide (by rw [hR, if_neg (by omega)])
    have c1' : (L.length : Int) ≤ 12 := by omega
    clear hp hbig
    go_enter Try.func39, Try.ntmps39
    go_wp2
    go_ret
    exact ⟨ret_int hR.out.symm, Below.refl _ _⟩
  obtain ⟨q, rfl⟩ := Int.eq_ofNat_of_zero_le (show 0 ≤ p by omega)
  obtain ⟨p1, p2⟩ := pow_le12 (show L.length ≤ 12 by omega)
  have epow : ((2 : Int) ^ L.length) = ((2 ^ L.length : Nat) : Int) := (Int.natCast_pow 2 _).symm
  rw [epow, Int.toNat_natCast] at hR
  obtain ⟨M, hM⟩ : ∃ M : Nat, M = 2 ^ L.length := ⟨_, rfl⟩
  rw [← hM] at hR p1 p2
  have hwp : IntKind.i64.wrap ((2 : Int) ^ L.length) = M := by rw [epow, ← hM, IntKind.wrap_i64]; omega
  clear epow c2
  replace hM := hide hM
  by_cases c3 : M ≤ q
  · replace hR : Hid (R = 0) := hide (by rw [hR, if_neg (by omega)])
    have c1' : (L.length : Int) ≤ 12 := by omega
    have c3' : (M : Int) ≤ q := by omega
    clear hp hbig
    go_enter Try.func39, Try.ntmps39
    go_wp2
    go_ret
    exact ⟨ret_int hR.out.symm, Below.refl _ _⟩
  have hq : q < 4096 := by omega
  by_cases c4 : big ≤ x
  · replace hR : Hid (R = 0) := hide (by rw [hR, if_neg (by omega)])
    have c1' : (L.length : Int) ≤ 12 := by omega
    have c3' : (q : Int) < M := by omega
    rw [hbig] at c4
    clear hp hbig
    go_enter Try.func39, Try.ntmps39
    go_wp2
    go_ret
    exact ⟨ret_int hR.out.symm, Below.refl _ _⟩
  have hyes : Hid ((∀ y ∈ L, y < big) → climbL (q / 2 ^ 0) (L.drop 0) x = R) := hide fun h => by
    rw [hR, if_pos ⟨by omega, by omega, by omega, by omega, h⟩]; simp
  have hno : Hid (¬ (∀ y ∈ L, y < big) → R = 0) := hide fun h => by
    rw [hR, if_neg (fun hh => h hh.2.2.2.2)]
  have c1' : (L.length : Int) ≤ 12 := by omega
  have c3' : (q : Int) < M := by omega
  have hl12 : L.length ≤ 12 := by omega
  rw [hbig] at c4
  clear hR hp hl c1 c3 p1 p2
  replace hbig := hide hbig
  go_enter Try.func39, Try.ntmps39
  go_wp2_with fail
  go_loop [32] (fun t32 => ∃ i : Nat, i ≤ L.length ∧ t32 = .int .i64 i ∧ Hid (∀ j, j < i → L.getD j 0 < big)) (fun t32 => L.length - (intOf t32).toNat)
  case atStart => exact ⟨0, by omega, rfl, hide fun j hj => absurd hj (Nat.not_lt_zero j)⟩
  case round =>
    obtain ⟨i, hi, rfl, hok⟩ := hrel
    by_cases hlt : i < L.length
    · obtain ⟨b, off, rfl, _, hc⟩ := hs.get hlt
      have hyb := hw.get hlt
      have hstop : Hid (big ≤ L.getD i 0 → R = 0) := hide fun h => hno.out fun hh => by
        have := hh _ (getD_mem hlt)
        omega
      have hnext : Hid (L.getD i 0 < big → ∀ j, j < i + 1 → L.getD j 0 < big) := hide fun h => allbig_step hok.out h
      obtain ⟨y, hy⟩ : ∃ y, y = L.getD i 0 := ⟨_, rfl⟩
      rw [← hy] at hc hyb hstop hnext
      obtain ⟨y0, y1⟩ := hyb
      clear hy hok hyes hno
      by_cases hb : y < 18446744069414584321
      · have hgood : Hid (y < big) := hide (by rw [hbig.out]; exact hb)
        clear c4 hwp
        go_wp2
        go_round
        case rel => exact ⟨i + 1, by omega, by go_num, hide (hnext.out hgood.out)⟩
        case measure => simp [intOf]; omega
      · have hbad : Hid (R = 0) := hide (hstop.out (by rw [hbig.out]; omega))
        have hb' : 18446744069414584321 ≤ y := by omega
        clear c4 hwp
        go_wp2
        go_ret
        exact ⟨ret_int hbad.out.symm, Below.refl _ _⟩
    · have hx2 : Hid (climbL (q / 2 ^ 0) (L.drop 0) x = R) := hide (hyes.out (allbig_mem fun j hj => hok.out j (by omega)))
      clear hyes hno hok c4 hwp
      go_wp2_with fail
      go_loopw [9, 42] (fun t9 t42 wr => ∃ k : Nat, k ≤ L.length ∧ t42 = .int .i64 k ∧ (∃ z : Int, (0 ≤ z ∧ z < 18446744073709551616) ∧ t9 = .int .u64 z ∧ Hid (climbL (q / 2 ^ k) (L.drop k) z = R)) ∧ Below w.heap.size w wr) (fun _ t42 _ => L.length - (intOf t42).toNat)
      case atStart => exact ⟨0, by omega, rfl, ⟨x, hx, rfl, hx2⟩, Below.refl _ _⟩
      case round =>
        clear hx2
        obtain ⟨k, hk, rfl, ⟨z, hz, rfl, hz2⟩, hb1⟩ := hrel
        by_cases hlt2 : k < L.length
        · have hst := climb_step (q := q) (x := z) hlt2
          rw [hz2.out] at hst
          have hk12 : k ≤ 12 := by omega
          have hbt := bit_fact q k (by omega)
          obtain ⟨b, off, rfl, _, hc⟩ := (hs.mono hb1).get hlt2
          have hyb := hw.get hlt2
          obtain ⟨y, hy⟩ : ∃ y, y = L.getD k 0 := ⟨_, rfl⟩
          rw [← hy] at hc hyb hst
          have cb := fun W : World => bit_any q k W (by omega)
          obtain ⟨r, hr⟩ : ∃ r, r = q / 2 ^ k % 2 := ⟨_, rfl⟩
          rw [← hr] at hbt hst cb
          have hr2 : r = 0 ∨ r = 1 := by omega
          clear hy hz2
          replace hr := hide hr
          rcases hr2 with rfl | rfl
          · rw [if_neg (by decide)] at hst
            have hn1 := nd_bd z y
            replace hst := hide hst.symm
            go_wp2_with fail
            refine (node_any z y _ hz hyb).mono ?_
            rintro ew6 w6 ⟨rfl, hb6⟩
            go_wp2
            go_roundw
            case rel => exact ⟨k + 1, by omega, by go_num, ⟨_, hn1, rfl, hide hst.out⟩, below2 hb1 hb6⟩
            case measure => simp [intOf]; omega
          · rw [if_pos rfl] at hst
            have hn1 := nd_bd y z
            replace hst := hide hst.symm
            go_wp2_with fail
            refine (node_any y z _ hyb hz).mono ?_
            rintro ew6 w6 ⟨rfl, hb6⟩
            go_wp2
            go_roundw
            case rel => exact ⟨k + 1, by omega, by go_num, ⟨_, hn1, rfl, hide hst.out⟩, below2 hb1 hb6⟩
            case measure => simp [intOf]; omega
        · have hfin := climb_end (q := q) (i := k) (x := z) (show L.length ≤ k by omega)
          rw [hz2.out] at hfin
          subst hfin
          go_wp2
          go_ret
          exact ⟨rfl, hb1⟩

set_option maxRecDepth 10000 in
set_option maxHeartbeats 4000000 in
theorem rClimb_any (x p : Int) (ad : Option Addr) (cap : Nat) (L : List Int) (w : World) (hx : 0 ≤ x ∧ x < 18446744073709551616) (hp : p < 9223372036854775808) (hs : Sl w .u64 ad L) (hw : AllW L) (hl : L.length < 1099511627776) :
    Calls Try.prog 41 #[.int .u64 x, .int .i64 p, .slice ad L.length cap] w fun e w' => e = .returned (.int .u64 (fclimb x p L)) ∧ Below w.heap.size w w' := by
  obtain ⟨R, hR⟩ : ∃ R, R = fclimb x p L := ⟨_, rfl⟩
  rw [← hR]
  unfold fclimb at hR
  have hbig : big = 18446744069414584321 := rfl
  by_cases c1 : 12 < L.length
  · replace hR : Hid (R = 0) := hide (by rw [hR, if_neg (by omega)])
    have c1' : (12 : Int) < L.length := by omega
    clear hp hbig
    go_enter Try.func41, Try.ntmps41
    go_wp2
    go_ret
    exact ⟨ret_int hR.out.symm, Below.refl _ _⟩
  by_cases c2 : p < 0
  · replace hR : Hid (R = 0) := hide (by rw [hR, if_neg (by omega)])
    have c1' : (L.length : Int) ≤ 12 := by omega
    clear hp hbig
    go_enter Try.func41, Try.ntmps41
    go_wp2
    go_ret
    exact ⟨ret_int hR.out.symm, Below.refl _ _⟩
  obtain ⟨q, rfl⟩ := Int.eq_ofNat_of_zero_le (show 0 ≤ p by omega)
  obtain ⟨p1, p2⟩ := pow_le12 (show L.length ≤ 12 by omega)
  have epow : ((2 : Int) ^ L.length) = ((2 ^ L.length : Nat) : Int) := (Int.natCast_pow 2 _).symm
  rw [epow, Int.toNat_natCast] at hR
  obtain ⟨M, hM⟩ : ∃ M : Nat, M = 2 ^ L.length := ⟨_, rfl⟩
  rw [← hM] at hR p1 p2
  have hwp : IntKind.i64.wrap ((2 : Int) ^ L.length) = M := by rw [epow, ← hM, IntKind.wrap_i64]; omega
  clear epow c2
  replace hM := hide hM
  by_cases c3 : M ≤ q
  · replace hR : Hid (R = 0) := hide (by rw [hR, if_neg (by omega)])
    have c1' : (L.length : Int) ≤ 12 := by omega
    have c3' : (M : Int) ≤ q := by omega
    clear hp hbig
    go_enter Try.func41, Try.ntmps41
    go_wp2
    go_ret
    exact ⟨ret_int hR.out.symm, Below.refl _ _⟩
  have hq : q < 4096 := by omega
  by_cases c4 : big ≤ x
  · replace hR : Hid (R = 0) := hide (by rw [hR, if_neg (by omega)])
    have c1' : (L.length : Int) ≤ 12 := by omega
    have c3' : (q : Int) < M := by omega
    rw [hbig] at c4
    clear hp hbig
    go_enter Try.func41, Try.ntmps41
    go_wp2
    go_ret
    exact ⟨ret_int hR.out.symm, Below.refl _ _⟩
  have hyes : Hid ((∀ y ∈ L, y < big) → climbL (q / 2 ^ 0) (L.drop 0) x = R) := hide fun h => by
    rw [hR, if_pos ⟨by omega, by omega, by omega, by omega, h⟩]; simp
  have hno : Hid (¬ (∀ y ∈ L, y < big) → R = 0) := hide fun h => by
    rw [hR, if_neg (fun hh => h hh.2.2.2.2)]
  have c1' : (L.length : Int) ≤ 12 := by omega
  have c3' : (q : Int) < M := by omega
  have hl12 : L.length ≤ 12 := by omega
  rw [hbig] at c4
  clear hR hp hl c1 c3 p1 p2
  replace hbig := hide hbig
  go_enter Try.func41, Try.ntmps41
  go_wp2_with fail
  go_loop [7] (fun t7 => ∃ i : Nat, i ≤ L.length ∧ t7 = .int .i64 i ∧ Hid (∀ j, j < i → L.getD j 0 < big)) (fun t7 => L.length - (intOf t7).toNat)
  case atStart => exact ⟨0, by omega, rfl, hide fun j hj => absurd hj (Nat.not_lt_zero j)⟩
  case round =>
    obtain ⟨i, hi, rfl, hok⟩ := hrel
    by_cases hlt : i < L.length
    · obtain ⟨b, off, rfl, _, hc⟩ := hs.get hlt
      have hyb := hw.get hlt
      have hstop : Hid (big ≤ L.getD i 0 → R = 0) := hide fun h => hno.out fun hh => by
        have := hh _ (getD_mem hlt)
        omega
      have hnext : Hid (L.getD i 0 < big → ∀ j, j < i + 1 → L.getD j 0 < big) := hide fun h => allbig_step hok.out h
      obtain ⟨y, hy⟩ : ∃ y, y = L.getD i 0 := ⟨_, rfl⟩
      rw [← hy] at hc hyb hstop hnext
      obtain ⟨y0, y1⟩ := hyb
      clear hy hok hyes hno
      by_cases hb : y < 18446744069414584321
      · have hgood : Hid (y < big) := hide (by rw [hbig.out]; exact hb)
        clear c4 hwp
        go_wp2
        go_round
        case rel => exact ⟨i + 1, by omega, by go_num, hide (hnext.out hgood.out)⟩
        case measure => simp [intOf]; omega
      · have hbad : Hid (R = 0) := hide (hstop.out (by rw [hbig.out]; omega))
        have hb' : 18446744069414584321 ≤ y := by omega
        clear c4 hwp
        go_wp2
        go_ret
        exact ⟨ret_int hbad.out.symm, Below.refl _ _⟩
    · have hx2 : Hid (climbL (q / 2 ^ 0) (L.drop 0) x = R) := hide (hyes.out (allbig_mem fun j hj => hok.out j (by omega)))
      clear hyes hno hok c4 hwp
      go_wp2_with fail
      go_loopw [8, 9] (fun t8 t9 wr => ∃ k : Nat, k ≤ L.length ∧ t9 = .int .i64 k ∧ (∃ z : Int, (0 ≤ z ∧ z < 18446744073709551616) ∧ t8 = .int .u64 z ∧ Hid (climbL (q / 2 ^ k) (L.drop k) z = R)) ∧ Below w.heap.size w wr) (fun _ t9 _ => L.length - (intOf t9).toNat)
      case atStart => exact ⟨0, by omega, rfl, ⟨x, hx, rfl, hx2⟩, Below.refl _ _⟩
      case round =>
        clear hx2
        obtain ⟨k, hk, rfl, ⟨z, hz, rfl, hz2⟩, hb1⟩ := hrel
        by_cases hlt2 : k < L.length
        · have hst := climb_step (q := q) (x := z) hlt2
          rw [hz2.out] at hst
          have hk12 : k ≤ 12 := by omega
          have hbt := bit_fact q k (by omega)
          obtain ⟨b, off, rfl, _, hc⟩ := (hs.mono hb1).get hlt2
          have hyb := hw.get hlt2
          obtain ⟨y, hy⟩ : ∃ y, y = L.getD k 0 := ⟨_, rfl⟩
          rw [← hy] at hc hyb hst
          have cb := fun W : World => bit_any q k W (by omega)
          obtain ⟨r, hr⟩ : ∃ r, r = q / 2 ^ k % 2 := ⟨_, rfl⟩
          rw [← hr] at hbt hst cb
          have hr2 : r = 0 ∨ r = 1 := by omega
          clear hy hz2
          replace hr := hide hr
          rcases hr2 with rfl | rfl
          · rw [if_neg (by decide)] at hst
            have hn1 := nd_bd z y
            replace hst := hide hst.symm
            go_wp2_with fail
            refine (cb _).mono ?_
            rintro ew5 w5 ⟨rfl, hb5⟩
            clear cb
            have hc5 := cell_below hb5 hc
            go_wp2_with fail
            refine (rNode_any z y _ hz hyb).mono ?_
            rintro ew6 w6 ⟨rfl, hb6⟩
            go_wp2
            go_roundw
            case rel => exact ⟨k + 1, by omega, by go_num, ⟨_, hn1, rfl, hide hst.out⟩, below2 (below2 hb1 hb5) hb6⟩
            case measure => simp [intOf]; omega
          · rw [if_pos rfl] at hst
            have hn1 := nd_bd y z
            replace hst := hide hst.symm
            go_wp2_with fail
            refine (cb _).mono ?_
            rintro ew5 w5 ⟨rfl, hb5⟩
            clear cb
            have hc5 := cell_below hb5 hc
            go_wp2_with fail
            refine (rNode_any y z _ hyb hz).mono ?_
            rintro ew6 w6 ⟨rfl, hb6⟩
            go_wp2
            go_roundw
            case rel => exact ⟨k + 1, by omega, by go_num, ⟨_, hn1, rfl, hide hst.out⟩, below2 (below2 hb1 hb5) hb6⟩
            case measure => simp [intOf]; omega
        · have hfin := climb_end (q := q) (i := k) (x := z) (show L.length ≤ k by omega)
          rw [hz2.out] at hfin
          subst hfin
          go_wp2
          go_ret
          exact ⟨rfl, hb1⟩

end Go.Proofs.Ythkdaoomnfgooaa
