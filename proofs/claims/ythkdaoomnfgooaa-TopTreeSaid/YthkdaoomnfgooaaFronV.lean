/- Frontiers: Valid. -/
import Derived.Test.YthkdaoomnfgooaaFron
namespace Go.Proofs.Ythkdaoomnfgooaa
open Go.RowKit

def fvld (d c : Int) (L : List Int) : Bool := decide (1 ≤ d ∧ d ≤ 12 ∧ 0 ≤ c ∧ c ≤ 2 ^ d.toNat ∧ (L.length : Int) = d + 1 ∧ vldL c.toNat L)

theorem pow_le12 {n : Nat} (h : n ≤ 12) : 1 ≤ 2 ^ n ∧ 2 ^ n ≤ 4096 := ⟨Nat.one_le_two_pow, by have := Nat.pow_le_pow_right (n := 2) (by decide) h; simpa using this⟩

theorem vld_step {c : Nat} {L : List Int} {i : Nat} (h : ∀ j, j < i → entryOk c (L.getD j 0) j) (h1 : entryOk c (L.getD i 0) i) : ∀ j, j < i + 1 → entryOk c (L.getD j 0) j := fun j hj => by
  by_cases e : j = i
  · rw [e]; exact h1
  · exact h j (by omega)

set_option maxRecDepth 10000 in
set_option maxHeartbeats 4000000 in
theorem Valid_any (d c : Int) (ad : Option Addr) (cap : Nat) (L : List Int) (w : World) (hs : Sl w .u64 ad L) (hw : AllW L) (hl : L.length < 1099511627776) (c1 : c < 9223372036854775808) :
    Calls Try.prog 21 #[.agg #[.int .i64 d, .int .i64 c, .slice ad L.length cap]] w fun e w' => e = .returned (.bool (fvld d c L)) ∧ Below w.heap.size w w' := by
  by_cases hd : 1 ≤ d ∧ d ≤ 12
  · obtain ⟨n, rfl⟩ := Int.eq_ofNat_of_zero_le (show 0 ≤ d by omega)
    obtain ⟨hd1, hd2⟩ := hd
    obtain ⟨p1, p2⟩ := pow_le12 (show n ≤ 12 by omega)
    obtain ⟨M, hM⟩ : ∃ M : Int, M = ((2 ^ n : Nat) : Int) := ⟨_, rfl⟩
    have hM1 : 1 ≤ M := by omega
    have hM2 : M ≤ 4096 := by omega
    have hwp : IntKind.i64.wrap ((2 : Int) ^ n) = M := by
      have e : ((2 : Int) ^ n) = ((2 ^ n : Nat) : Int) := (Int.natCast_pow 2 n).symm
      rw [e, ← hM, IntKind.wrap_i64]
      omega
    have hfv : fvld n c L = decide (0 ≤ c ∧ c ≤ M ∧ L.length = n + 1 ∧ vldL c.toNat L) := by
      unfold fvld
      have e : ((2 : Int) ^ (n : Int).toNat) = M := by rw [Int.toNat_natCast, hM]; exact (Int.natCast_pow 2 n).symm
      rw [e]
      refine decide_eq_decide.2 ⟨fun ⟨_, _, h3, h4, h5, h6⟩ => ⟨h3, h4, by omega, h6⟩, fun ⟨h3, h4, h5, h6⟩ => ⟨hd1, hd2, h3, h4, by omega, h6⟩⟩
    clear p1 p2
    replace hM := hide hM
    by_cases hc0 : c < 0
    · have hR : Hid (fvld n c L = false) := hide (by rw [hfv]; simp; omega)
      clear hfv c1
      go_enter Try.func21, Try.ntmps21
      go_wp2_with fail
      refine name_world fun W hW => ?_
      have g0 : Blk W w.heap.size #[.int .i64 n, .int .i64 c, .slice ad L.length cap] 28 := by rw [hW]; exact Blk.newAt rfl
      have hB : Below w.heap.size w W := by rw [hW]; exact (Below.refl _ _).alloc (Nat.le_refl _) _
      clear hW
      have k0 := cell_later' (g0.cell (j := 0) (v := .int .i64 n) rfl); have k1 := cell_later' (g0.cell (j := 1) (v := .int .i64 c) rfl); have k2 := cell_later' (g0.cell (j := 2) (v := .slice ad L.length cap) rfl)
      refine wp_region_later Try.mixed (by kernel_rfl) ?_
      repeat (first | go_big_quiet_step (first | fail) | quiet_step (first | fail))
      refine wpQuiet_nil ?_
      intro w3 hb3
      replace hb3 := below_of_later hb3
      go_wp2
      go_ret
      exact ⟨ret_bool hR.out.symm, below2 hB hb3⟩
    · obtain ⟨q, rfl⟩ := Int.eq_ofNat_of_zero_le (show 0 ≤ c by omega)
      rw [Int.toNat_natCast] at hfv
      clear hc0 c1
      by_cases hc1 : M < (q : Int)
      · have hR : Hid (fvld n q L = false) := hide (by rw [hfv]; simp; omega)
        clear hfv
        go_enter Try.func21, Try.ntmps21
        go_wp2_with fail
        refine name_world fun W hW => ?_
        have g0 : Blk W w.heap.size #[.int .i64 n, .int .i64 q, .slice ad L.length cap] 28 := by rw [hW]; exact Blk.newAt rfl
        have hB : Below w.heap.size w W := by rw [hW]; exact (Below.refl _ _).alloc (Nat.le_refl _) _
        clear hW
        have k0 := cell_later' (g0.cell (j := 0) (v := .int .i64 n) rfl); have k1 := cell_later' (g0.cell (j := 1) (v := .int .i64 q) rfl); have k2 := cell_later' (g0.cell (j := 2) (v := .slice ad L.length cap) rfl)
        refine wp_region_later Try.mixed (by kernel_rfl) ?_
        repeat (first | go_big_quiet_step (first | fail) | quiet_step (first | fail))
        refine wpQuiet_nil ?_
        intro w3 hb3
        replace hb3 := below_of_later hb3
        go_wp2
        go_ret
        exact ⟨ret_bool hR.out.symm, below2 hB hb3⟩
      · have hq : q ≤ 4096 := by omega
        by_cases hll : L.length = n + 1
        · have hne : ((L.length : Int) != (n : Int) + 1) = false := by simp; omega
          have hfw : IntKind.i64.wrap ((n : Int) + 1) = n + 1 := by rw [IntKind.wrap_i64]; omega
          have hfv2 : fvld n q L = decide (vldL q L) := by
            rw [hfv]
            refine decide_eq_decide.2 ⟨fun h => h.2.2.2, fun h => ⟨by omega, by omega, hll, h⟩⟩
          replace hfv := hide hfv2
          clear hfv2
          replace hll := hide hll
          go_enter Try.func21, Try.ntmps21
          go_wp2_with fail
          refine name_world fun W hW => ?_
          have g0 : Blk W w.heap.size #[.int .i64 n, .int .i64 q, .slice ad L.length cap] 28 := by rw [hW]; exact Blk.newAt rfl
          have hB : Below w.heap.size w W := by rw [hW]; exact (Below.refl _ _).alloc (Nat.le_refl _) _
          clear hW
          have k0 := cell_later' (g0.cell (j := 0) (v := .int .i64 n) rfl); have k1 := cell_later' (g0.cell (j := 1) (v := .int .i64 q) rfl); have k2 := cell_later' (g0.cell (j := 2) (v := .slice ad L.length cap) rfl)
          refine wp_region_later Try.mixed (by kernel_rfl) ?_
          repeat (first | go_big_quiet_step (first | fail) | quiet_step (first | fail))
          refine wpQuiet_nil ?_
          intro w3 hb3
          replace hb3 := below_of_later hb3
          replace hB := below2 hB hb3
          replace g0 := g0.mono hb3
          clear k0 k1 k2 hb3 hne hfw
          have k2 := g0.cell (j := 2) (v := .slice ad L.length cap) rfl
          go_wp2_with fail
          clear k2
          go_loop [36] (fun t36 => ∃ i : Nat, i ≤ L.length ∧ t36 = .int .i64 i ∧ Hid (∀ j, j < i → entryOk q (L.getD j 0) j)) (fun t36 => L.length - (intOf t36).toNat)
          case atStart => exact ⟨0, by omega, rfl, hide fun j hj => absurd hj (Nat.not_lt_zero j)⟩
          case round =>
            obtain ⟨i, hi, rfl, hok⟩ := hrel
            by_cases hlt : i < L.length
            · have hi12 : i ≤ 12 := by have := hll.out; omega
              obtain ⟨b, off, rfl, _, hc⟩ := (hs.mono hB).get hlt
              have hxb := hw.get hlt
              have hent : entryOk q (L.getD i 0) i ↔ (L.getD i 0 < big ∧ (q / 2 ^ i % 2 = 0 → L.getD i 0 = 0)) := Iff.rfl
              have hstop : Hid (¬ entryOk q (L.getD i 0) i → fvld n q L = false) := hide fun h => by
                rw [hfv.out, decide_eq_false]
                exact fun hv => h (hv i hlt)
              have hnext : Hid (entryOk q (L.getD i 0) i → ∀ j, j < i + 1 → entryOk q (L.getD j 0) j) := hide fun h => vld_step hok.out h
              obtain ⟨x, hx⟩ : ∃ x, x = L.getD i 0 := ⟨_, rfl⟩
              rw [← hx] at hc hxb hent hstop hnext
              obtain ⟨x0, x1⟩ := hxb
              have hbt : bits .and .i64 ((q : Int) / 2 ^ i) 1 = ((q / 2 ^ i % 2 : Nat) : Int) := by
                have e : ((2 : Int) ^ i) = ((2 ^ i : Nat) : Int) := (Int.natCast_pow 2 i).symm
                rw [e, ← Int.natCast_ediv]
                exact bit_and1 _ (Nat.lt_of_le_of_lt (Nat.div_le_self _ _) (by omega))
              obtain ⟨r, hr⟩ : ∃ r, r = q / 2 ^ i % 2 := ⟨_, rfl⟩
              rw [← hr] at hbt hent
              have hr2 : r = 0 ∨ r = 1 := by omega
              have k1 := g0.cell (j := 1) (v := .int .i64 q) rfl
              clear hok hx
              replace hent := hide hent
              replace hr := hide hr
              by_cases hbig : x < 18446744069414584321
              · have hbn : ¬ 18446744069414584321 ≤ x := by omega
                by_cases hx0 : x = 0
                · have hz : (x != 0) = false := by simpa using hx0
                  have hgood : Hid (entryOk q x i) := hide (hent.out.2 ⟨hbig, fun _ => hx0⟩)
                  replace hx0 := hide hx0
                  rcases hr2 with rfl | rfl
                  · go_wp2
                    go_round
                    case rel => exact ⟨i + 1, by omega, by go_num, hide (hnext.out hgood.out)⟩
                    case measure => simp [intOf]; omega
                  · go_wp2
                    go_round
                    case rel => exact ⟨i + 1, by omega, by go_num, hide (hnext.out hgood.out)⟩
                    case measure => simp [intOf]; omega
                · have hz : (x != 0) = true := by simpa using hx0
                  rcases hr2 with rfl | rfl
                  · have hbad : Hid (fvld n q L = false) := hide (hstop.out fun h => hx0 ((hent.out.1 h).2 rfl))
                    replace hx0 := hide hx0
                    go_wp2
                    go_ret
                    exact ⟨ret_bool hbad.out.symm, hB⟩
                  · have hgood : Hid (entryOk q x i) := hide (hent.out.2 ⟨hbig, fun h => by cases h⟩)
                    replace hx0 := hide hx0
                    go_wp2
                    go_round
                    case rel => exact ⟨i + 1, by omega, by go_num, hide (hnext.out hgood.out)⟩
                    case measure => simp [intOf]; omega
              · have hbn : 18446744069414584321 ≤ x := by omega
                have hbad : Hid (fvld n q L = false) := hide (hstop.out fun h => hbig (hent.out.1 h).1)
                clear hr2 hbt 
                go_wp2
                go_ret
                exact ⟨ret_bool hbad.out.symm, hB⟩
            · have hall : Hid (fvld n q L = true) := hide (by
                rw [hfv.out, decide_eq_true]
                intro j hj
                exact hok.out j (by omega))
              go_wp2
              go_ret
              exact ⟨ret_bool hall.out.symm, hB⟩
        · have hne : ((L.length : Int) != (n : Int) + 1) = true := by simp; omega
          have hfw : IntKind.i64.wrap ((n : Int) + 1) = n + 1 := by rw [IntKind.wrap_i64]; omega
          have hR : Hid (fvld n q L = false) := hide (by rw [hfv]; simp; omega)
          clear hfv
          replace hll := hide hll
          go_enter Try.func21, Try.ntmps21
          go_wp2_with fail
          refine name_world fun W hW => ?_
          have g0 : Blk W w.heap.size #[.int .i64 n, .int .i64 q, .slice ad L.length cap] 28 := by rw [hW]; exact Blk.newAt rfl
          have hB : Below w.heap.size w W := by rw [hW]; exact (Below.refl _ _).alloc (Nat.le_refl _) _
          clear hW
          have k0 := cell_later' (g0.cell (j := 0) (v := .int .i64 n) rfl); have k1 := cell_later' (g0.cell (j := 1) (v := .int .i64 q) rfl); have k2 := cell_later' (g0.cell (j := 2) (v := .slice ad L.length cap) rfl)
          refine wp_region_later Try.mixed (by kernel_rfl) ?_
          repeat (first | go_big_quiet_step (first | fail) | quiet_step (first | fail))
          refine wpQuiet_nil ?_
          intro w3 hb3
          replace hb3 := below_of_later hb3
          go_wp2
          go_ret
          exact ⟨ret_bool hR.out.symm, below2 hB hb3⟩
  · have hR : Hid (fvld d c L = false) := hide (by unfold fvld; simp; omega)
    clear c1
    by_cases h0 : d < 1
    · go_enter Try.func21, Try.ntmps21
      go_wp2
      go_ret
      exact ⟨ret_bool hR.out.symm, (Below.refl _ _).alloc (Nat.le_refl _) _⟩
    · have h1 : 12 < d := by omega
      go_enter Try.func21, Try.ntmps21
      go_wp2
      go_ret
      exact ⟨ret_bool hR.out.symm, (Below.refl _ _).alloc (Nat.le_refl _) _⟩

set_option maxRecDepth 10000 in
set_option maxHeartbeats 4000000 in
theorem rValid36_any (d c : Int) (ad : Option Addr) (cap : Nat) (L : List Int) (w : World) (hs : Sl w .u64 ad L) (hw : AllW L) (hl : L.length < 1099511627776) (c1 : c < 9223372036854775808) :
    Calls Try.prog 23 #[.agg #[.int .i64 d, .int .i64 c, .slice ad L.length cap]] w fun e w' => e = .returned (.bool (fvld d c L)) ∧ Below w.heap.size w w' := by
  by_cases hd : 1 ≤ d ∧ d ≤ 12
  · obtain ⟨n, rfl⟩ := Int.eq_ofNat_of_zero_le (show 0 ≤ d by omega)
    obtain ⟨hd1, hd2⟩ := hd
    obtain ⟨p1, p2⟩ := pow_le12 (show n ≤ 12 by omega)
    obtain ⟨M, hM⟩ : ∃ M : Int, M = ((2 ^ n : Nat) : Int) := ⟨_, rfl⟩
    have hM1 : 1 ≤ M := by omega
    have hM2 : M ≤ 4096 := by omega
    have hwp : IntKind.i64.wrap ((2 : Int) ^ n) = M := by
      have e : ((2 : Int) ^ n) = ((2 ^ n : Nat) : Int) := (Int.natCast_pow 2 n).symm
      rw [e, ← hM, IntKind.wrap_i64]
      omega
    have hfv : fvld n c L = decide (0 ≤ c ∧ c ≤ M ∧ L.length = n + 1 ∧ vldL c.toNat L) := by
      unfold fvld
      have e : ((2 : Int) ^ (n : Int).toNat) = M := by rw [Int.toNat_natCast, hM]; exact (Int.natCast_pow 2 n).symm
      rw [e]
      refine decide_eq_decide.2 ⟨fun ⟨_, _, h3, h4, h5, h6⟩ => ⟨h3, h4, by omega, h6⟩, fun ⟨h3, h4, h5, h6⟩ => ⟨hd1, hd2, h3, h4, by omega, h6⟩⟩
    clear p1 p2
    replace hM := hide hM
    by_cases hc0 : c < 0
    · have hR : Hid (fvld n c L = false) := hide (by rw [hfv]; simp; omega)
      clear hfv c1
      go_enter Try.func23, Try.ntmps23
      go_wp2_with fail
      refine name_world fun W hW => ?_
      have g0 : Blk W w.heap.size #[.int .i64 n, .int .i64 c, .slice ad L.length cap] 24 := by rw [hW]; exact Blk.newAt rfl
      have hB : Below w.heap.size w W := by rw [hW]; exact (Below.refl _ _).alloc (Nat.le_refl _) _
      clear hW
      have k0 := cell_later' (g0.cell (j := 0) (v := .int .i64 n) rfl); have k1 := cell_later' (g0.cell (j := 1) (v := .int .i64 c) rfl); have k2 := cell_later' (g0.cell (j := 2) (v := .slice ad L.length cap) rfl)
      refine wp_region_later Try.mixed (by kernel_rfl) ?_
      repeat (first | go_big_quiet_step (first | fail) | quiet_step (first | fail))
      refine wpQuiet_nil ?_
      intro w3 hb3
      replace hb3 := below_of_later hb3
      go_wp2
      go_ret
      exact ⟨ret_bool hR.out.symm, below2 hB hb3⟩
    · obtain ⟨q, rfl⟩ := Int.eq_ofNat_of_zero_le (show 0 ≤ c by omega)
      rw [Int.toNat_natCast] at hfv
      clear hc0 c1
      by_cases hc1 : M < (q : Int)
      · have hR : Hid (fvld n q L = false) := hide (by rw [hfv]; simp; omega)
        clear hfv
        go_enter Try.func23, Try.ntmps23
        go_wp2_with fail
        refine name_world fun W hW => ?_
        have g0 : Blk W w.heap.size #[.int .i64 n, .int .i64 q, .slice ad L.length cap] 24 := by rw [hW]; exact Blk.newAt rfl
        have hB : Below w.heap.size w W := by rw [hW]; exact (Below.refl _ _).alloc (Nat.le_refl _) _
        clear hW
        have k0 := cell_later' (g0.cell (j := 0) (v := .int .i64 n) rfl); have k1 := cell_later' (g0.cell (j := 1) (v := .int .i64 q) rfl); have k2 := cell_later' (g0.cell (j := 2) (v := .slice ad L.length cap) rfl)
        refine wp_region_later Try.mixed (by kernel_rfl) ?_
        repeat (first | go_big_quiet_step (first | fail) | quiet_step (first | fail))
        refine wpQuiet_nil ?_
        intro w3 hb3
        replace hb3 := below_of_later hb3
        go_wp2
        go_ret
        exact ⟨ret_bool hR.out.symm, below2 hB hb3⟩
      · have hq : q ≤ 4096 := by omega
        by_cases hll : L.length = n + 1
        · have hne : ((L.length : Int) != (n : Int) + 1) = false := by simp; omega
          have hfw : IntKind.i64.wrap ((n : Int) + 1) = n + 1 := by rw [IntKind.wrap_i64]; omega
          have hfv2 : fvld n q L = decide (vldL q L) := by
            rw [hfv]
            refine decide_eq_decide.2 ⟨fun h => h.2.2.2, fun h => ⟨by omega, by omega, hll, h⟩⟩
          replace hfv := hide hfv2
          clear hfv2
          replace hll := hide hll
          go_enter Try.func23, Try.ntmps23
          go_wp2_with fail
          refine name_world fun W hW => ?_
          have g0 : Blk W w.heap.size #[.int .i64 n, .int .i64 q, .slice ad L.length cap] 24 := by rw [hW]; exact Blk.newAt rfl
          have hB : Below w.heap.size w W := by rw [hW]; exact (Below.refl _ _).alloc (Nat.le_refl _) _
          clear hW
          have k0 := cell_later' (g0.cell (j := 0) (v := .int .i64 n) rfl); have k1 := cell_later' (g0.cell (j := 1) (v := .int .i64 q) rfl); have k2 := cell_later' (g0.cell (j := 2) (v := .slice ad L.length cap) rfl)
          refine wp_region_later Try.mixed (by kernel_rfl) ?_
          repeat (first | go_big_quiet_step (first | fail) | quiet_step (first | fail))
          refine wpQuiet_nil ?_
          intro w3 hb3
          replace hb3 := below_of_later hb3
          replace hB := below2 hB hb3
          replace g0 := g0.mono hb3
          clear k0 k1 k2 hb3 hne hfw
          have k0 := g0.cell (j := 0) (v := .int .i64 n) rfl
          go_wp2_with fail
          clear k0
          go_loopw [3] (fun t3 wr => ∃ i : Nat, i ≤ L.length ∧ t3 = .int .i64 i ∧ Below w3.heap.size w3 wr ∧ Hid (∀ j, j < i → entryOk q (L.getD j 0) j)) (fun t3 _ => L.length - (intOf t3).toNat)
          case atStart => exact ⟨0, by omega, rfl, Below.refl _ _, hide fun j hj => absurd hj (Nat.not_lt_zero j)⟩
          case round =>
            obtain ⟨i, hi, rfl, hb4, hok⟩ := hrel
            have hB := below2 hB hb4
            have g0 := g0.mono hb4
            have k0 := g0.cell (j := 0) (v := .int .i64 n) rfl
            have k2 := g0.cell (j := 2) (v := .slice ad L.length cap) rfl
            have hlN : L.length = n + 1 := hll.out
            replace hlN : (i < L.length ↔ (i : Int) ≤ n) := by omega
            by_cases hlt : i < L.length
            · have hi12 : i ≤ 12 := by have := hll.out; omega
              obtain ⟨b, off, rfl, _, hc⟩ := (hs.mono hB).get hlt
              have hxb := hw.get hlt
              have hent : entryOk q (L.getD i 0) i ↔ (L.getD i 0 < big ∧ (q / 2 ^ i % 2 = 0 → L.getD i 0 = 0)) := Iff.rfl
              have hstop : Hid (¬ entryOk q (L.getD i 0) i → fvld n q L = false) := hide fun h => by
                rw [hfv.out, decide_eq_false]
                exact fun hv => h (hv i hlt)
              have hnext : Hid (entryOk q (L.getD i 0) i → ∀ j, j < i + 1 → entryOk q (L.getD j 0) j) := hide fun h => vld_step hok.out h
              obtain ⟨x, hx⟩ : ∃ x, x = L.getD i 0 := ⟨_, rfl⟩
              rw [← hx] at hc hxb hent hstop hnext
              obtain ⟨x0, x1⟩ := hxb
              have hbt : bits .and .i64 ((q : Int) / 2 ^ i) 1 = ((q / 2 ^ i % 2 : Nat) : Int) := by
                have e : ((2 : Int) ^ i) = ((2 ^ i : Nat) : Int) := (Int.natCast_pow 2 i).symm
                rw [e, ← Int.natCast_ediv]
                exact bit_and1 _ (Nat.lt_of_le_of_lt (Nat.div_le_self _ _) (by omega))
              obtain ⟨r, hr⟩ : ∃ r, r = q / 2 ^ i % 2 := ⟨_, rfl⟩
              rw [← hr] at hbt hent
              have hr2 : r = 0 ∨ r = 1 := by omega
              have k1 := g0.cell (j := 1) (v := .int .i64 q) rfl
              have cb := fun W : World => bit_any q i W (by omega)
              rw [← hr] at cb
              have hin : (i : Int) ≤ n := hlN.1 hlt
              replace hlN := hide hlN
              clear hbt
              clear hok hx
              replace hent := hide hent
              replace hr := hide hr
              by_cases hbig : x < 18446744069414584321
              · have hbn : ¬ 18446744069414584321 ≤ x := by omega
                by_cases hx0 : x = 0
                · have hz : (x != 0) = false := by simpa using hx0
                  have hgood : Hid (entryOk q x i) := hide (hent.out.2 ⟨hbig, fun _ => hx0⟩)
                  replace hx0 := hide hx0
                  rcases hr2 with rfl | rfl
                  · go_wp2_with fail
                    refine (cb _).mono ?_
                    rintro e w5 ⟨rfl, hb5⟩
                    have hc2 := cell_below hb5 hc
                    have k25 := cell_below hb5 k2
                    clear cb
                    go_wp2
                    go_roundw
                    case rel => exact ⟨i + 1, by omega, by go_num, below2 hb4 hb5, hide (hnext.out hgood.out)⟩
                    case measure => simp [intOf]; omega
                  · go_wp2_with fail
                    refine (cb _).mono ?_
                    rintro e w5 ⟨rfl, hb5⟩
                    have hc2 := cell_below hb5 hc
                    have k25 := cell_below hb5 k2
                    clear cb
                    go_wp2
                    go_roundw
                    case rel => exact ⟨i + 1, by omega, by go_num, below2 hb4 hb5, hide (hnext.out hgood.out)⟩
                    case measure => simp [intOf]; omega
                · have hz : (x != 0) = true := by simpa using hx0
                  rcases hr2 with rfl | rfl
                  · have hbad : Hid (fvld n q L = false) := hide (hstop.out fun h => hx0 ((hent.out.1 h).2 rfl))
                    replace hx0 := hide hx0
                    go_wp2_with fail
                    refine (cb _).mono ?_
                    rintro e w5 ⟨rfl, hb5⟩
                    have hc2 := cell_below hb5 hc
                    have k25 := cell_below hb5 k2
                    clear cb
                    go_wp2
                    go_ret
                    exact ⟨ret_bool hbad.out.symm, below2 hB hb5⟩
                  · have hgood : Hid (entryOk q x i) := hide (hent.out.2 ⟨hbig, fun h => by cases h⟩)
                    replace hx0 := hide hx0
                    go_wp2_with fail
                    refine (cb _).mono ?_
                    rintro e w5 ⟨rfl, hb5⟩
                    have hc2 := cell_below hb5 hc
                    have k25 := cell_below hb5 k2
                    clear cb
                    go_wp2
                    go_roundw
                    case rel => exact ⟨i + 1, by omega, by go_num, below2 hb4 hb5, hide (hnext.out hgood.out)⟩
                    case measure => simp [intOf]; omega
              · have hbn : 18446744069414584321 ≤ x := by omega
                have hbad : Hid (fvld n q L = false) := hide (hstop.out fun h => hbig (hent.out.1 h).1)
                clear hr2 cb
                go_wp2
                go_ret
                exact ⟨ret_bool hbad.out.symm, hB⟩
            · have hall : Hid (fvld n q L = true) := hide (by
                rw [hfv.out, decide_eq_true]
                intro j hj
                exact hok.out j (by omega))
              have hin : ¬ (i : Int) ≤ n := fun h => hlt (hlN.2 h)
              replace hlN := hide hlN
              go_wp2
              go_ret
              exact ⟨ret_bool hall.out.symm, hB⟩
        · have hne : ((L.length : Int) != (n : Int) + 1) = true := by simp; omega
          have hfw : IntKind.i64.wrap ((n : Int) + 1) = n + 1 := by rw [IntKind.wrap_i64]; omega
          have hR : Hid (fvld n q L = false) := hide (by rw [hfv]; simp; omega)
          clear hfv
          replace hll := hide hll
          go_enter Try.func23, Try.ntmps23
          go_wp2_with fail
          refine name_world fun W hW => ?_
          have g0 : Blk W w.heap.size #[.int .i64 n, .int .i64 q, .slice ad L.length cap] 24 := by rw [hW]; exact Blk.newAt rfl
          have hB : Below w.heap.size w W := by rw [hW]; exact (Below.refl _ _).alloc (Nat.le_refl _) _
          clear hW
          have k0 := cell_later' (g0.cell (j := 0) (v := .int .i64 n) rfl); have k1 := cell_later' (g0.cell (j := 1) (v := .int .i64 q) rfl); have k2 := cell_later' (g0.cell (j := 2) (v := .slice ad L.length cap) rfl)
          refine wp_region_later Try.mixed (by kernel_rfl) ?_
          repeat (first | go_big_quiet_step (first | fail) | quiet_step (first | fail))
          refine wpQuiet_nil ?_
          intro w3 hb3
          replace hb3 := below_of_later hb3
          go_wp2
          go_ret
          exact ⟨ret_bool hR.out.symm, below2 hB hb3⟩
  · have hR : Hid (fvld d c L = false) := hide (by unfold fvld; simp; omega)
    clear c1
    by_cases h0 : d < 1
    · go_enter Try.func23, Try.ntmps23
      go_wp2_with fail
      refine name_world fun W hW => ?_
      have g0 : Blk W w.heap.size #[.int .i64 d, .int .i64 c, .slice ad L.length cap] 24 := by rw [hW]; exact Blk.newAt rfl
      have hB : Below w.heap.size w W := by rw [hW]; exact (Below.refl _ _).alloc (Nat.le_refl _) _
      clear hW
      have k0 := cell_later' (g0.cell (j := 0) (v := .int .i64 d) rfl); have k1 := cell_later' (g0.cell (j := 1) (v := .int .i64 c) rfl); have k2 := cell_later' (g0.cell (j := 2) (v := .slice ad L.length cap) rfl)
      refine wp_region_later Try.mixed (by kernel_rfl) ?_
      repeat (first | go_big_quiet_step (first | fail) | quiet_step (first | fail))
      refine wpQuiet_nil ?_
      intro w3 hb3
      replace hb3 := below_of_later hb3
      go_wp2
      go_ret
      exact ⟨ret_bool hR.out.symm, below2 hB hb3⟩
    · have h1 : 12 < d := by omega
      go_enter Try.func23, Try.ntmps23
      go_wp2_with fail
      refine name_world fun W hW => ?_
      have g0 : Blk W w.heap.size #[.int .i64 d, .int .i64 c, .slice ad L.length cap] 24 := by rw [hW]; exact Blk.newAt rfl
      have hB : Below w.heap.size w W := by rw [hW]; exact (Below.refl _ _).alloc (Nat.le_refl _) _
      clear hW
      have k0 := cell_later' (g0.cell (j := 0) (v := .int .i64 d) rfl); have k1 := cell_later' (g0.cell (j := 1) (v := .int .i64 c) rfl); have k2 := cell_later' (g0.cell (j := 2) (v := .slice ad L.length cap) rfl)
      refine wp_region_later Try.mixed (by kernel_rfl) ?_
      repeat (first | go_big_quiet_step (first | fail) | quiet_step (first | fail))
      refine wpQuiet_nil ?_
      intro w3 hb3
      replace hb3 := below_of_later hb3
      go_wp2
      go_ret
      exact ⟨ret_bool hR.out.symm, below2 hB hb3⟩

end Go.Proofs.Ythkdaoomnfgooaa
