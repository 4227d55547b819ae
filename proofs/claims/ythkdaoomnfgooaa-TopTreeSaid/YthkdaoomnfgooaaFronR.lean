/- Frontiers: Root and Climb. -/
import Derived.Test.YthkdaoomnfgooaaFronV
namespace Go.Proofs.Ythkdaoomnfgooaa
open Go.RowKit

def froot (d c : Int) (L : List Int) : Int := if fvld d c L then (if c = 2 ^ d.toNat then L.getD d.toNat 0 else rootL c.toNat (L.take d.toNat) (emp 0) 0) else 0
def fclimb (x p : Int) (l : List Int) : Int := if l.length ≤ 12 ∧ 0 ≤ p ∧ p < 2 ^ l.length ∧ x < big ∧ (∀ y ∈ l, y < big) then climbL p.toNat l x else 0

theorem half_pow (q i : Nat) : q / 2 ^ i / 2 = q / 2 ^ (i + 1) := by rw [Nat.div_div_eq_div_mul, ← Nat.pow_succ]

theorem drop_getD {l : List Int} {i : Nat} (h : i < l.length) : l.drop i = l.getD i 0 :: l.drop (i + 1) := by
  rw [List.drop_eq_getElem_cons h, List.getD_eq_getElem?_getD, List.getElem?_eq_getElem h]
  rfl

theorem root_step {q i : Nat} {l : List Int} {x : Int} (h : i < l.length) :
    rootL (q / 2 ^ i) (l.drop i) x i = rootL (q / 2 ^ (i + 1)) (l.drop (i + 1)) (if q / 2 ^ i % 2 = 1 then nd (l.getD i 0) x else nd x (emp i)) (i + 1) := by
  rw [drop_getD h, rootL, half_pow]
theorem root_end {q i : Nat} {l : List Int} {x : Int} (h : l.length ≤ i) : rootL (q / 2 ^ i) (l.drop i) x i = x := by
  rw [List.drop_of_length_le h, rootL]
theorem climb_step {q i : Nat} {l : List Int} {x : Int} (h : i < l.length) :
    climbL (q / 2 ^ i) (l.drop i) x = climbL (q / 2 ^ (i + 1)) (l.drop (i + 1)) (if q / 2 ^ i % 2 = 1 then nd (l.getD i 0) x else nd x (l.getD i 0)) := by
  rw [drop_getD h, climbL, half_pow]
theorem climb_end {q i : Nat} {l : List Int} {x : Int} (h : l.length ≤ i) : climbL (q / 2 ^ i) (l.drop i) x = x := by
  rw [List.drop_of_length_le h, climbL]

theorem bit_fact (q i : Nat) (hq : q < 9223372036854775808) : bits .and .i64 ((q : Int) / 2 ^ i) 1 = ((q / 2 ^ i % 2 : Nat) : Int) := by
  have e : ((2 : Int) ^ i) = ((2 ^ i : Nat) : Int) := (Int.natCast_pow 2 i).symm
  rw [e, ← Int.natCast_ediv]
  exact bit_and1 _ (Nat.lt_of_le_of_lt (Nat.div_le_self _ _) hq)

set_option maxRecDepth 10000 in
set_option maxHeartbeats 4000000 in
theorem Root_any (d c : Int) (ad : Option Addr) (cap : Nat) (L : List Int) (w : World) (hs : Sl w .u64 ad L) (hw : AllW L) (hl : L.length < 1099511627776) (c1 : c < 9223372036854775808) :
    Calls Try.prog 24 #[.agg #[.int .i64 d, .int .i64 c, .slice ad L.length cap]] w fun e w' => e = .returned (.int .u64 (froot d c L)) ∧ Below w.heap.size w w' := by
  have cV := fun (W : World) hs => Valid_any d c ad cap L W hs hw hl c1
  obtain ⟨R, hR⟩ : ∃ R, R = froot d c L := ⟨_, rfl⟩
  rw [← hR]
  unfold froot at hR
  by_cases hv : fvld d c L = true
  · rw [if_pos hv] at hR
    rw [hv] at cV
    have hv2 := of_decide_eq_true hv
    obtain ⟨d1, d2, c0, c2, hll, _⟩ := hv2
    obtain ⟨n, rfl⟩ := Int.eq_ofNat_of_zero_le (show 0 ≤ d by omega)
    obtain ⟨q, rfl⟩ := Int.eq_ofNat_of_zero_le c0
    rw [Int.toNat_natCast] at hR c2
    rw [Int.toNat_natCast] at hR
    clear c1 c0 hv
    have hlN : L.length = n + 1 := by omega
    obtain ⟨p1, p2⟩ := pow_le12 (show n ≤ 12 by omega)
    have epow : ((2 : Int) ^ n) = ((2 ^ n : Nat) : Int) := (Int.natCast_pow 2 n).symm
    rw [epow] at hR c2
    obtain ⟨M, hM⟩ : ∃ M : Nat, M = 2 ^ n := ⟨_, rfl⟩
    rw [← hM] at hR c2
    have hwp : IntKind.i64.wrap ((2 : Int) ^ n) = M := by rw [epow, IntKind.wrap_i64]; omega
    have hM2 : M ≤ 4096 := by omega
    have hq : q ≤ 4096 := by omega
    clear p1 p2 c2 hll epow
    replace hM := hide hM
    by_cases hful : q = M
    · have hRx : Hid (R = L.getD n 0) := hide (by rw [hR, if_pos (by rw [hful])])
      have hqe : ((q : Int) == (M : Int)) = true := by rw [hful]; simp
      obtain ⟨b, off, rfl, _, hc⟩ := hs.get (show n < L.length by omega)
      rw [← hRx.out] at hc
      have hnl : (n : Int) < L.length := by omega
      clear hR hRx
      replace hful := hide hful
      replace hlN := hide hlN
      go_enter Try.func24, Try.ntmps24
      go_wp2_with fail
      refine name_calls fun W hW => ?_
      have g0 : Blk W w.heap.size #[.int .i64 n, .int .i64 q, .slice (some ⟨b, off, none⟩) L.length cap] 28 := by rw [hW]; exact Blk.newAt rfl
      have hB : Below w.heap.size w W := by rw [hW]; exact (Below.refl _ _).alloc (Nat.le_refl _) _
      clear hW
      refine (cV W (hs.mono hB)).mono ?_
      rintro e w1 ⟨rfl, hb1⟩
      replace g0 := g0.mono hb1
      replace hB := below2 hB hb1
      clear cV hb1
      go_wp2_with fail
      have k0 := cell_later' (g0.cell (j := 0) (v := .int .i64 n) rfl); have k1 := cell_later' (g0.cell (j := 1) (v := .int .i64 q) rfl)
      refine wp_region_later Try.mixed (by kernel_rfl) ?_
      repeat (first | go_big_quiet_step (first | fail) | quiet_step (first | fail))
      refine wpQuiet_nil ?_
      intro w3 hb3
      replace hb3 := below_of_later hb3
      replace g0 := g0.mono hb3
      replace hB := below2 hB hb3
      replace hc := cell_below hB hc
      clear k0 k1 hb3
      have k0 := g0.cell (j := 0) (v := .int .i64 n) rfl; have k2 := g0.cell (j := 2) (v := .slice (some ⟨b, off, none⟩) L.length cap) rfl
      go_wp2
      go_ret
      exact ⟨rfl, hB⟩
    · have hRx : Hid (rootL (q / 2 ^ 0) ((L.take n).drop 0) (emp 0) 0 = R) := hide (by rw [hR, if_neg (by omega)]; simp)
      have hqe : ((q : Int) == (M : Int)) = false := by rw [beq_eq_false_iff_ne]; omega
      have e0 : empI 0 = emp 0 := rfl
      clear hR
      replace hful := hide hful
      have hlt' : Hid ((L.take n).length = n) := hide (by rw [List.length_take]; omega)
      replace hlN := hide hlN
      go_enter Try.func24, Try.ntmps24
      go_wp2_with fail
      refine name_calls fun W hW => ?_
      have g0 : Blk W w.heap.size #[.int .i64 n, .int .i64 q, .slice ad L.length cap] 28 := by rw [hW]; exact Blk.newAt rfl
      have hB : Below w.heap.size w W := by rw [hW]; exact (Below.refl _ _).alloc (Nat.le_refl _) _
      clear hW
      refine (cV W (hs.mono hB)).mono ?_
      rintro e w1 ⟨rfl, hb1⟩
      replace g0 := g0.mono hb1
      replace hB := below2 hB hb1
      clear cV hb1
      go_wp2_with fail
      have k0 := cell_later' (g0.cell (j := 0) (v := .int .i64 n) rfl); have k1 := cell_later' (g0.cell (j := 1) (v := .int .i64 q) rfl)
      refine wp_region_later Try.mixed (by kernel_rfl) ?_
      repeat (first | go_big_quiet_step (first | fail) | quiet_step (first | fail))
      refine wpQuiet_nil ?_
      intro w3 hb3
      replace hb3 := below_of_later hb3
      replace g0 := g0.mono hb3
      replace hB := below2 hB hb3
      clear k0 k1 hb3 hwp hqe
      go_wp2_with fail
      refine (Empty_any 0 _).mono ?_
      rintro ew4 w4 ⟨rfl, hb4⟩
      rw [e0]
      replace g0 := g0.mono hb4
      replace hB := below2 hB hb4
      clear hb4
      have k0 := g0.cell (j := 0) (v := .int .i64 n) rfl
      go_wp2_with fail
      clear k0
      go_loopw [3, 4, 25] (fun t3 t4 t25 wr => ∃ i : Nat, i ≤ n ∧ t25 = .int .i64 i ∧ t3 = .int .u64 (emp i) ∧ (∃ x : Int, (0 ≤ x ∧ x < 18446744073709551616) ∧ t4 = .int .u64 x ∧ Hid (rootL (q / 2 ^ i) ((L.take n).drop i) x i = R)) ∧ Below w4.heap.size w4 wr) (fun _ _ t25 _ => n - (intOf t25).toNat)
      case atStart => exact ⟨0, by omega, rfl, rfl, ⟨_, emp_bd 0, rfl, hRx⟩, Below.refl _ _⟩
      case round =>
        obtain ⟨i, hi, rfl, rfl, ⟨x, hx, rfl, hx2⟩, hb5⟩ := hrel
        have hB := below2 hB hb5
        replace g0 := g0.mono hb5
        by_cases hlt : i < n
        · have hst := root_step (q := q) (x := x) (show i < (L.take n).length by rw [hlt'.out]; exact hlt)
          rw [hx2.out] at hst
          have hgd : (L.take n).getD i 0 = L.getD i 0 := by
            simp only [List.getD_eq_getElem?_getD]
            rw [List.getElem?_take_of_lt hlt]
          rw [hgd] at hst
          have hiL : i < L.length := by have := hlN.out; omega
          obtain ⟨b, off, rfl, _, hc⟩ := (hs.mono hB).get hiL
          have hyb := hw.get hiL
          have hbt := bit_fact q i (by omega)
          have hee : Hid (emp (i + 1) = nd (emp i) (emp i)) := hide rfl
          have heb := emp_bd i
          obtain ⟨y, hy⟩ : ∃ y, y = L.getD i 0 := ⟨_, rfl⟩
          rw [← hy] at hc hyb hst
          obtain ⟨r, hr⟩ : ∃ r, r = q / 2 ^ i % 2 := ⟨_, rfl⟩
          rw [← hr] at hbt hst
          have hr2 : r = 0 ∨ r = 1 := by omega
          have k1 := g0.cell (j := 1) (v := .int .i64 q) rfl; have k2 := g0.cell (j := 2) (v := .slice (some ⟨b, off, none⟩) L.length cap) rfl
          generalize emp i = e at *
          clear hy hx2 hgd
          replace hr := hide hr
          rcases hr2 with rfl | rfl
          · rw [if_neg (by decide)] at hst
            have hn1 := nd_bd x e
            replace hst := hide hst.symm
            go_wp2_with fail
            refine (node_any x e _ hx heb).mono ?_
            rintro ew6 w6 ⟨rfl, hb6⟩
            go_wp2_with fail
            refine (node_any e e _ heb heb).mono ?_
            rintro ew7 w7 ⟨rfl, hb7⟩
            go_wp2
            go_roundw
            case rel => exact ⟨i + 1, by omega, by go_num, by rw [hee.out], ⟨_, hn1, rfl, hide hst.out⟩, below2 (below2 hb5 hb6) hb7⟩
            case measure => simp [intOf]; omega
          · rw [if_pos rfl] at hst
            have hn1 := nd_bd y x
            replace hst := hide hst.symm
            go_wp2_with fail
            refine (node_any y x _ hyb hx).mono ?_
            rintro ew6 w6 ⟨rfl, hb6⟩
            go_wp2_with fail
            refine (node_any e e _ heb heb).mono ?_
            rintro ew7 w7 ⟨rfl, hb7⟩
            go_wp2
            go_roundw
            case rel => exact ⟨i + 1, by omega, by go_num, by rw [hee.out], ⟨_, hn1, rfl, hide hst.out⟩, below2 (below2 hb5 hb6) hb7⟩
            case measure => simp [intOf]; omega
        · have hfin := root_end (q := q) (i := i) (x := x) (show (L.take n).length ≤ i by rw [hlt'.out]; omega)
          rw [hx2.out] at hfin
          subst hfin
          go_wp2
          go_ret
          exact ⟨rfl, hB⟩
  · replace hv : fvld d c L = false := by simpa using hv
    rw [hv] at cV hR
    replace hR := hide (show R = 0 from hR)
    clear c1 hv
    go_enter Try.func24, Try.ntmps24
    go_wp2_with fail
    refine name_calls fun W hW => ?_
    have hB : Below w.heap.size w W := by rw [hW]; exact (Below.refl _ _).alloc (Nat.le_refl _) _
    clear hW
    refine (cV W (hs.mono hB)).mono ?_
    rintro e w1 ⟨rfl, hb1⟩
    go_wp2
    go_ret
    exact ⟨ret_int hR.out.symm, below2 hB hb1⟩

end Go.Proofs.Ythkdaoomnfgooaa
