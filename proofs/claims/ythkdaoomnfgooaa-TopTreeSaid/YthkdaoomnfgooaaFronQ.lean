/- Frontiers: Same. -/
import Derived.Test.YthkdaoomnfgooaaFron
namespace Go.Proofs.Ythkdaoomnfgooaa
open Go.RowKit

def sameB (d c d' c' : Int) (L L' : List Int) : Bool := decide (d = d' ∧ c = c' ∧ L = L')

set_option maxRecDepth 10000 in
set_option maxHeartbeats 2000000 in
theorem Same36_any (d c d' c' : Int) (ad ad' : Option Addr) (cap cap' : Nat) (L L' : List Int) (w : World) (hs : Sl w .u64 ad L) (ht : Sl w .u64 ad' L') (hl : L.length < 1099511627776) :
    Calls Try.prog 26 #[.agg #[.int .i64 d, .int .i64 c, .slice ad L.length cap], .agg #[.int .i64 d', .int .i64 c', .slice ad' L'.length cap']] w fun e w' => e = .returned (.bool (sameB d c d' c' L L')) ∧ Below w.heap.size w w' := by
  have hW0 : Below w.heap.size w ((w.alloc (.cells #[.int .i64 d, .int .i64 c, .slice ad L.length cap] 24)).alloc (.cells #[.int .i64 d', .int .i64 c', .slice ad' L'.length cap'] 24)) := ((Below.refl _ _).alloc (Nat.le_refl _) _).alloc (by simp) _
  by_cases h1 : d = d'
  · have z1 : (d != d') = false := by simpa using h1
    by_cases h2 : c = c'
    · have z2 : (c != c') = false := by simpa using h2
      by_cases h3 : L.length = L'.length
      · have z3 : ((L.length : Int) != L'.length) = false := by simp; omega
        have hall : sameB d c d' c' L L' = decide (L = L') := by
          unfold sameB
          exact decide_eq_decide.2 ⟨fun h => h.2.2, fun h => ⟨h1, h2, h⟩⟩
        rw [hall]
        replace h1 := hide h1
        replace h2 := hide h2
        replace h3 := hide h3
        clear hall
        go_enter Try.func26, Try.ntmps26
        go_wp2_with fail
        clear z1 z2 z3
        go_loopw [5] (fun t5 wr => ∃ i : Nat, i ≤ L.length ∧ t5 = .int .i64 i ∧ Below w.heap.size w wr ∧ Blk wr w.heap.size #[.int .i64 d, .int .i64 c, .slice ad L.length cap] 24 ∧ Blk wr (w.heap.size + 1) #[.int .i64 d', .int .i64 c', .slice ad' L'.length cap'] 24 ∧ Hid (L.take i = L'.take i)) (fun t5 _ => L.length - (intOf t5).toNat)
        case atStart => exact ⟨0, Nat.zero_le _, rfl, hW0, (Blk.newAt rfl).alloc _, Blk.newAt (by simp), hide (by simp)⟩
        case round =>
          obtain ⟨i, hi, rfl, hb, g0, g1, heq⟩ := hrel
          have q2 := g0.cell (j := 2) (v := .slice ad L.length cap) rfl
          clear hW0
          by_cases hlt : i < L.length
          · have hlt' : i < L'.length := by have := h3.out; omega
            obtain ⟨b, off, rfl, hbl, hc⟩ := (hs.mono hb).get hlt
            obtain ⟨b', off', rfl, hbl', hc'⟩ := (ht.mono hb).get hlt'
            obtain ⟨x, hx⟩ : ∃ x, x = L.getD i 0 := ⟨_, rfl⟩
            obtain ⟨y, hy⟩ : ∃ y, y = L'.getD i 0 := ⟨_, rfl⟩
            have k1 : wr.cell? ⟨b, off + i, none⟩ = some (.int .u64 x) := by rw [hx]; exact hc
            have k2 : wr.cell? ⟨b', off' + i, none⟩ = some (.int .u64 y) := by rw [hy]; exact hc'
            replace k1 := cell_later' k1
            replace k2 := cell_later' k2
            have k3 := cell_later' (g0.cell (j := 2) (v := .slice (some ⟨b, off, none⟩) L.length cap) rfl)
            have k4 := cell_later' (g1.cell (j := 2) (v := .slice (some ⟨b', off', none⟩) L'.length cap') rfl)
            clear hc hc'
            have hnext : Hid (x = y → L.take (i + 1) = L'.take (i + 1)) := hide fun e => by
              rw [take_succ_getD L 0 hlt, take_succ_getD L' 0 hlt', heq.out, ← hx, ← hy, e]
            have hstop : Hid (¬ x = y → decide (L = L') = false) := hide fun e => by
              simp only [decide_eq_false_iff_not]
              intro e'
              exact e (by rw [hx, hy, e'])
            clear heq
            replace hx := hide hx
            replace hy := hide hy
            by_cases hxy : x = y
            · have hd : (x != y) = false := by simpa using hxy
              replace hxy := hide hxy
              go_wp2_with fail
              refine wp_region_later Try.mixed (by kernel_rfl) ?_
              repeat (first | go_big_quiet_step (first | fail) | quiet_step (first | fail))
              refine wpQuiet_nil ?_
              intro w2 hb2
              replace hb2 := below_of_later hb2
              replace g0 := g0.mono hb2
              replace g1 := g1.mono hb2
              clear k1 k2 k3 k4 q2
              go_wp2_with fail
              go_roundw
              case rel => exact ⟨i + 1, by omega, by go_num, below2 hb hb2, g0, g1, hide (hnext.out hxy.out)⟩
              case measure => simp [intOf]; omega
            · have hd : (x != y) = true := by simpa using hxy
              replace hxy := hide hxy
              go_wp2_with fail
              refine wp_region_later Try.mixed (by kernel_rfl) ?_
              repeat (first | go_big_quiet_step (first | fail) | quiet_step (first | fail))
              refine wpQuiet_nil ?_
              intro w2 hb2
              replace hb2 := below_of_later hb2
              clear k1 k2 k3 k4 q2
              go_wp2
              go_ret
              exact ⟨ret_bool (hstop.out hxy.out).symm, below2 hb hb2⟩
          · go_wp2
            go_ret
            have : L = L' := by
              have h := heq.out
              have := h3.out
              rwa [List.take_of_length_le (by omega), List.take_of_length_le (by omega)] at h
            exact ⟨ret_bool (by simp [this]), hb⟩
      · have z3 : ((L.length : Int) != L'.length) = true := by simp; omega
        have hd : Hid (sameB d c d' c' L L' = false) := hide (by
          unfold sameB
          rw [decide_eq_false]
          intro e; exact h3 (by rw [e.2.2]))
        replace h1 := hide h1
        replace h2 := hide h2
        go_enter Try.func26, Try.ntmps26
        go_wp2
        go_ret
        exact ⟨ret_bool hd.out.symm, hW0⟩
    · have z2 : (c != c') = true := by simpa using h2
      have hd : Hid (sameB d c d' c' L L' = false) := hide (by
        unfold sameB
        rw [decide_eq_false]
        intro e; exact h2 e.2.1)
      replace h1 := hide h1
      go_enter Try.func26, Try.ntmps26
      go_wp2
      go_ret
      exact ⟨ret_bool hd.out.symm, hW0⟩
  · have z1 : (d != d') = true := by simpa using h1
    have hd : Hid (sameB d c d' c' L L' = false) := hide (by
      unfold sameB
      rw [decide_eq_false]
      intro e; exact h1 e.1)
    go_enter Try.func26, Try.ntmps26
    go_wp2
    go_ret
    exact ⟨ret_bool hd.out.symm, hW0⟩

end Go.Proofs.Ythkdaoomnfgooaa
