/- The tree of the top: treeClash, awake37. -/
import Derived.Test.YthkdaoomnfgooaaTreeY
namespace Go.Proofs.Ythkdaoomnfgooaa
open Go.RowKit

/-- Do the ways of two leaves meet in one node of two pairs? -/
def clashL : Nat → List Int → Int → Int → Bool
  | _, [], _, _ => false
  | p, s :: r, x, y => if (if p % 2 = 1 then nd s x else nd x s) = (if p % 2 = 1 then nd s y else nd y s) then true else clashL (p / 2) r (if p % 2 = 1 then nd s x else nd x s) (if p % 2 = 1 then nd s y else nd y s)
theorem clash_of : ∀ (L : List Int) (p : Nat) (x y : Int), climbL p L x = climbL p L y → ¬ x = y → clashL p L x y = true
  | [], _, _, _, h, hne => absurd h hne
  | s :: r, p, x, y, h, _ => by
    unfold clashL
    by_cases e : (if p % 2 = 1 then nd s x else nd x s) = (if p % 2 = 1 then nd s y else nd y s)
    · rw [if_pos e]
    · rw [if_neg e]
      exact clash_of r (p / 2) _ _ h e
theorem clash_step {L : List Int} {q k : Nat} {x y : Int} (h : k < L.length) : clashL (q / 2 ^ k) (L.drop k) x y = if (if q / 2 ^ k % 2 = 1 then nd (L.getD k 0) x else nd x (L.getD k 0)) = (if q / 2 ^ k % 2 = 1 then nd (L.getD k 0) y else nd y (L.getD k 0)) then true else clashL (q / 2 ^ (k + 1)) (L.drop (k + 1)) (if q / 2 ^ k % 2 = 1 then nd (L.getD k 0) x else nd x (L.getD k 0)) (if q / 2 ^ k % 2 = 1 then nd (L.getD k 0) y else nd y (L.getD k 0)) := by
  rw [drop_getD h, clashL, half_pow]
theorem clash_end {L : List Int} {q k : Nat} {x y : Int} (h : L.length ≤ k) : clashL (q / 2 ^ k) (L.drop k) x y = false := by
  rw [List.drop_eq_nil_of_le h]; rfl

set_option maxRecDepth 10000 in
set_option maxHeartbeats 4000000 in
theorem treeClash_any (x y : Int) (q : Nat) (ad : Option Addr) (cap : Nat) (L : List Int) (w : World) (hx : 0 ≤ x ∧ x < 18446744073709551616) (hy : 0 ≤ y ∧ y < 18446744073709551616) (hs : Sl w .u64 ad L) (hw : AllW L) (hl : L.length ≤ 60) :
    Calls Try.prog 55 #[.int .u64 x, .int .u64 y, .int .i64 q, .slice ad L.length cap] w fun e w' => e = .returned (.bool (clashL q L x y)) ∧ Below w.heap.size w w' := by
  obtain ⟨R, hR⟩ : ∃ R, R = clashL q L x y := ⟨_, rfl⟩
  have hx2 : Hid (clashL (q / 2 ^ 0) (L.drop 0) x y = R) := hide (by rw [hR]; simp)
  rw [← hR]
  clear hR
  go_enter Try.func55, Try.ntmps55
  go_wp2_with fail
  go_loopw [0, 1, 15] (fun t0 t1 t15 wr => ∃ k : Nat, k ≤ L.length ∧ t15 = .int .i64 k ∧ (∃ x y : Int, (0 ≤ x ∧ x < 18446744073709551616) ∧ (0 ≤ y ∧ y < 18446744073709551616) ∧ t0 = .int .u64 x ∧ t1 = .int .u64 y ∧ Hid (clashL (q / 2 ^ k) (L.drop k) x y = R)) ∧ Below w.heap.size w wr) (fun _ _ t15 _ => L.length - (intOf t15).toNat)
  case atStart => exact ⟨0, by omega, rfl, ⟨x, y, hx, hy, rfl, rfl, hx2⟩, Below.refl _ _⟩
  case round =>
    clear hx2 hx hy
    obtain ⟨k, hk, rfl, ⟨x, y, hx, hy, rfl, rfl, hz2⟩, hB⟩ := hrel
    by_cases hlt : k < L.length
    · have hlt' : (k : Int) < L.length := by omega
      have hst := clash_step (q := q) (x := x) (y := y) hlt
      rw [hz2.out] at hst
      obtain ⟨b, off, rfl, _, hc⟩ := (hs.mono hB).get hlt
      have hsb := hw.get hlt
      obtain ⟨s, hse⟩ : ∃ s, s = L.getD k 0 := ⟨_, rfl⟩
      rw [← hse] at hc hsb hst
      have hm : ((q : Int) / 2 ^ k).tmod 2 = ((q / 2 ^ k % 2 : Nat) : Int) := by
        have e : ((2 : Int) ^ k) = ((2 ^ k : Nat) : Int) := (Int.natCast_pow 2 k).symm
        rw [e, ← Int.natCast_ediv, Int.tmod_eq_emod_of_nonneg (Int.natCast_nonneg _)]
        rfl
      obtain ⟨r, hr⟩ : ∃ r, r = q / 2 ^ k % 2 := ⟨_, rfl⟩
      rw [← hr] at hst hm
      have hr2 : r = 0 ∨ r = 1 := by omega
      have c1 := fun W : World => rNode_any x s W hx hsb
      have c2 := fun W : World => rNode_any y s W hy hsb
      have c3 := fun W : World => rNode_any s x W hsb hx
      have c4 := fun W : World => rNode_any s y W hsb hy
      have b1 := nd_bd x s
      have b2 := nd_bd y s
      have b3 := nd_bd s x
      have b4 := nd_bd s y
      generalize nd x s = v1 at *
      generalize nd y s = v2 at *
      generalize nd s x = v3 at *
      generalize nd s y = v4 at *
      clear hse hz2
      replace hr := hide hr
      rcases hr2 with rfl | rfl
      · simp only [if_neg (show ¬ (0 : Nat) = 1 by decide)] at hst
        clear c3 c4 b3 b4
        by_cases he : v1 = v2
        · rw [if_pos he] at hst
          have hee : (v1 == v2) = true := by simp [he]
          replace he := hide he
          replace hst := hide hst
          go_wp2_with fail
          refine (c1 wr).mono ?_
          rintro e w5 ⟨rfl, hb5⟩
          replace hB := below2 hB hb5
          go_wp2_with fail
          refine (c2 w5).mono ?_
          rintro e w6 ⟨rfl, hb6⟩
          replace hB := below2 hB hb6
          clear c1 c2 hc
          go_wp2
          go_ret
          exact ⟨ret_bool hst.out.symm, hB⟩
        · rw [if_neg he] at hst
          have hee : (v1 == v2) = false := by simpa using he
          replace he := hide he
          replace hst := hide hst.symm
          go_wp2_with fail
          refine (c1 wr).mono ?_
          rintro e w5 ⟨rfl, hb5⟩
          replace hB := below2 hB hb5
          go_wp2_with fail
          refine (c2 w5).mono ?_
          rintro e w6 ⟨rfl, hb6⟩
          replace hB := below2 hB hb6
          clear c1 c2 hc
          go_wp2
          go_roundw
          case rel => exact ⟨k + 1, by omega, by go_num, ⟨_, _, b1, b2, rfl, rfl, hide hst.out⟩, hB⟩
          case measure => simp [intOf]; omega
      · simp only [if_true] at hst
        by_cases he : v3 = v4
        · rw [if_pos he] at hst
          have hee : (v3 == v4) = true := by simp [he]
          replace he := hide he
          replace hst := hide hst
          go_wp2_with fail
          refine (c1 wr).mono ?_
          rintro e w5 ⟨rfl, hb5⟩
          replace hB := below2 hB hb5
          go_wp2_with fail
          refine (c2 w5).mono ?_
          rintro e w6 ⟨rfl, hb6⟩
          replace hB := below2 hB hb6
          go_wp2_with fail
          refine (c3 w6).mono ?_
          rintro e w7 ⟨rfl, hb7⟩
          replace hB := below2 hB hb7
          go_wp2_with fail
          refine (c4 w7).mono ?_
          rintro e w8 ⟨rfl, hb8⟩
          replace hB := below2 hB hb8
          clear c1 c2 c3 c4 hc
          go_wp2
          go_ret
          exact ⟨ret_bool hst.out.symm, hB⟩
        · rw [if_neg he] at hst
          have hee : (v3 == v4) = false := by simpa using he
          replace he := hide he
          replace hst := hide hst.symm
          go_wp2_with fail
          refine (c1 wr).mono ?_
          rintro e w5 ⟨rfl, hb5⟩
          replace hB := below2 hB hb5
          go_wp2_with fail
          refine (c2 w5).mono ?_
          rintro e w6 ⟨rfl, hb6⟩
          replace hB := below2 hB hb6
          go_wp2_with fail
          refine (c3 w6).mono ?_
          rintro e w7 ⟨rfl, hb7⟩
          replace hB := below2 hB hb7
          go_wp2_with fail
          refine (c4 w7).mono ?_
          rintro e w8 ⟨rfl, hb8⟩
          replace hB := below2 hB hb8
          clear c1 c2 c3 c4 hc
          go_wp2
          go_roundw
          case rel => exact ⟨k + 1, by omega, by go_num, ⟨_, _, b3, b4, rfl, rfl, hide hst.out⟩, hB⟩
          case measure => simp [intOf]; omega
    · have hfin := clash_end (q := q) (k := k) (x := x) (y := y) (show L.length ≤ k by omega)
      rw [hz2.out] at hfin
      subst hfin
      go_wp2
      go_ret
      exact ⟨rfl, hB⟩

set_option maxRecDepth 10000 in
set_option maxHeartbeats 4000000 in
theorem awakeTop (w : World) : Calls Try.prog 54 #[] w fun e w' => e = .returned (.bool true) ∧ Below w.heap.size w w' := by
  have cN := TNew_any 2 w (by decide) (by decide)
  have W56 : AllW [5, 6] := pair_W ⟨by decide, by decide⟩ ⟨by decide, by decide⟩
  have W5 : AllW [5] := fun x hx => by rw [List.mem_singleton.1 hx]; decide
  have cA5 : ∀ (base bL bV : Nat) (vs : Nat → Value) (W : World), (LogS W base bL bV 2 vs fun k => lev k []) → base ≤ W.heap.size → Calls Try.prog 45 #[.pointer (some ⟨bL, 0, none⟩), .int .u64 5] W fun e w' => e = .returned (.int .i64 0) ∧ LogR W w' base bL bV 2 vs fun k => lev k [5] := fun base bL bV vs W h hb => by
    have := TAppend_any W base bL bV 2 vs [] 5 h (by decide) (by decide) ⟨by decide, by decide⟩ (by decide) (fun x hx => by cases hx) hb
    rw [show tappE 2 [] 5 = 0 by decide, show tappL 2 [] 5 = [5] by decide] at this
    exact this
  have cA6 : ∀ (base bL bV : Nat) (vs : Nat → Value) (W : World), (LogS W base bL bV 2 vs fun k => lev k [5]) → base ≤ W.heap.size → Calls Try.prog 45 #[.pointer (some ⟨bL, 0, none⟩), .int .u64 6] W fun e w' => e = .returned (.int .i64 0) ∧ LogR W w' base bL bV 2 vs fun k => lev k [5, 6] := fun base bL bV vs W h hb => by
    have := TAppend_any W base bL bV 2 vs [5] 6 h (by decide) (by decide) ⟨by decide, by decide⟩ (by decide) W5 hb
    rw [show tappE 2 [5] 6 = 0 by decide, show tappL 2 [5] 6 = [5, 6] by decide] at this
    exact this
  have cC1 : ∀ (base bL bV : Nat) (vs : Nat → Value) (W : World), (LogS W base bL bV 2 vs fun k => lev k [5, 6]) → base ≤ W.heap.size → Calls Try.prog 51 #[.pointer (some ⟨bL, 0, none⟩), .int .i64 1] W fun e w' => e = .returned (.int .i64 0) ∧ LogR W w' base bL bV 2 vs fun k => lev k [5] := fun base bL bV vs W h hb => by
    have := TTruncate_any W base bL bV 2 vs [5, 6] 1 h (by decide) (by decide) (by decide) W56 hb
    rw [show tcutE [5, 6] 1 = 0 by decide, show tcutL [5, 6] 1 = [5] by decide] at this
    exact this
  have cR6 := fun (base bL bV : Nat) (vs : Nat → Value) (W : World) h => TRoot_any W base bL bV 2 vs [5, 6] h (by decide) (by decide)
  have cR5 := fun (base bL bV : Nat) (vs : Nat → Value) (W : World) h => TRoot_any W base bL bV 2 vs [5] h (by decide) (by decide)
  have cV6 := fun (ad : Option Addr) (cap : Nat) (W : World) (hs : Sl W .u64 ad [5, 6]) => Naive_any 2 ad cap [5, 6] W hs W56 (by decide) (by decide)
  have cV5 := fun (ad : Option Addr) (cap : Nat) (W : World) (hs : Sl W .u64 ad [5]) => Naive_any 2 ad cap [5] W hs W5 (by decide) (by decide)
  rw [dig_top (n := 2) (m := [5, 6]) (by decide)] at cR6
  rw [dig_top (n := 2) (m := [5]) (by decide)] at cR5
  generalize top 2 (placesL 2 [5, 6]) = R6 at *
  generalize top 2 (placesL 2 [5]) = R5 at *
  have h66 : (R6 == R6) = true := by simp
  have h55 : (R5 == R5) = true := by simp
  clear W56 W5
  go_enter Try.func54, Try.ntmps54
  go_wp2_with fail
  refine cN.mono ?_
  rintro e w1 ⟨bL, bV, vs, rfl, T, hB⟩
  clear cN
  go_wp2_with fail
  refine (cA5 _ _ _ _ _ T hB.size).mono ?_
  rintro e w2 ⟨rfl, vs2, T2, _, k2⟩
  replace hB := k2.below hB (fun i hi => T.low i hi) hB.size
  clear cA5 T k2
  go_wp2_with fail
  refine (cA6 _ _ _ _ _ T2 hB.size).mono ?_
  rintro e w3 ⟨rfl, vs3, T3, _, k3⟩
  replace hB := k3.below hB (fun i hi => T2.low i hi) hB.size
  clear cA6 T2 k3
  go_wp2_with fail
  refine (cR6 _ _ _ _ w3 T3).mono ?_
  rintro e w4 ⟨rfl, hb4⟩
  replace hB := below2 hB hb4
  replace T3 := T3.mono hb4
  clear cR6 hb4
  go_wp2_with fail
  refine name_calls fun W hW => ?_
  replace hB : Below w.heap.size w W := by rw [hW]; exact hB.alloc hB.size _
  replace T3 : LogS W w.heap.size bL bV 2 vs3 fun k => lev k [5, 6] := by rw [hW]; exact T3.alloc _
  have g0 : Blk W w4.heap.size #[.int .u64 5, .int .u64 6] 30 := by rw [hW]; exact Blk.newAt rfl
  have s0 := Sl.blk (k := .u64) [5, 6] g0 rfl
  clear hW g0
  refine (cV6 _ _ W s0).mono ?_
  rintro e w5 ⟨rfl, hb5⟩
  replace hB := below2 hB hb5
  replace T3 := T3.mono hb5
  clear cV6 hb5 s0
  go_wp2_with fail
  refine (cC1 _ _ _ _ w5 T3 hB.size).mono ?_
  rintro e w6 ⟨rfl, vs6, T6, _, k6⟩
  replace hB := k6.below hB (fun i hi => T3.low i hi) hB.size
  clear cC1 T3 k6
  go_wp2_with fail
  refine (cR5 _ _ _ _ w6 T6).mono ?_
  rintro e w7 ⟨rfl, hb7⟩
  replace hB := below2 hB hb7
  clear cR5 hb7 T6
  go_wp2_with fail
  refine name_calls fun W2 hW => ?_
  replace hB : Below w.heap.size w W2 := by rw [hW]; exact hB.alloc hB.size _
  have g0 : Blk W2 w7.heap.size #[.int .u64 5] 30 := by rw [hW]; exact Blk.newAt rfl
  have s0 := Sl.blk (k := .u64) [5] g0 rfl
  clear hW g0
  refine (cV5 _ _ W2 s0).mono ?_
  rintro e w8 ⟨rfl, hb8⟩
  replace hB := below2 hB hb8
  clear cV5 hb8 s0
  go_wp2
  go_ret
  exact ⟨rfl, hB⟩

end Go.Proofs.Ythkdaoomnfgooaa
