/- Inputs of a script: reduced inputs; a circuit and what its rows say of any assignment. -/
import Derived.Test.YtlgjnidphldiiaaQRunD
namespace Go.Proofs.Ytlgjnidphldiiaa
open Go.RowKit

/-- The inputs of a script. -/
def inpL (p : Int) (N : Nat) (l : List Int) : List Int := (List.range N).map fun i => if i < l.length then l.getD i 0 % p else 0
theorem inpL_succ (p : Int) (N : Nat) (l : List Int) : inpL p (N + 1) l = inpL p N l ++ [if N < l.length then l.getD N 0 % p else 0] := by
  unfold inpL
  rw [List.range_succ, List.map_append]
  rfl
theorem inpL_len (p : Int) (N : Nat) (l : List Int) : (inpL p N l).length = N := by simp [inpL]
theorem inpL_bd {p : Int} (hp : 0 < p) (N : Nat) (l : List Int) : ∀ x ∈ inpL p N l, 0 ≤ x ∧ x < p := fun x hx => by
  unfold inpL at hx
  obtain ⟨i, _, rfl⟩ := List.mem_map.1 hx
  split
  · exact mod_lt' hp _
  · omega

set_option maxRecDepth 10000 in
set_option maxHeartbeats 8000000 in
theorem Inputs_any (p pub sec : Int) (sa : Option Addr) (n sc : Nat) (la : Option Addr) (lc : Nat) (l : List Int) (w : World) (hp : 0 < p ∧ p < 18446744073709551616) (hb : 0 ≤ pub ∧ pub < 256 ∧ 0 ≤ sec ∧ sec < 256) (hl : Sl w .u64 la l) (hA : AllW l) (hz : l.length ≤ 9223372036854775807) :
    Calls Try.prog 53 #[.agg #[.int .u64 p, .int .u8 pub, .int .u8 sec, .slice sa n sc], .slice la l.length lc] w (RetSl w 22 .u64 (inpL p (pub + sec).toNat l)) := by
  obtain ⟨hp1, hp2⟩ := hp
  obtain ⟨b0, b1, b2, b3⟩ := hb
  obtain ⟨N, hN0⟩ : ∃ N : Nat, (N : Int) = pub + sec := ⟨(pub + sec).toNat, by omega⟩
  have hNt : (pub + sec).toNat = N := by omega
  rw [hNt]
  clear hNt
  have hN5 : N ≤ 600 := by omega
  replace hN0 := hide hN0
  go_enter Try.func53, Try.ntmps53
  go_wp2_with fail
  refine name_world fun w0 hN => ?_
  have g0 : Blk w0 w.heap.size #[.int .u64 p, .int .u8 pub, .int .u8 sec, .slice sa n sc] 66 := by rw [hN]; exact Blk.newAt rfl
  have hB : Below w.heap.size w w0 := by rw [hN]; exact (Below.refl _ _).alloc (Nat.le_refl _) _
  clear hN
  go_loopw [5, 6] (fun t5 t6 wr => ∃ j : Nat, j ≤ N ∧ t6 = .int .i64 j ∧ Own wr w.heap.size 22 .u64 t5 (inpL p j l) ∧ Below w.heap.size w wr ∧ Blk wr w.heap.size #[.int .u64 p, .int .u8 pub, .int .u8 sec, .slice sa n sc] 66) (fun _ t6 _ => N - (intOf t6).toNat)
  case atStart => exact ⟨0, Nat.zero_le _, rfl, Own.nil _ _ _ _, hB, g0⟩
  case round =>
    clear hB g0
    obtain ⟨j, hj, rfl, ow, hB, g0⟩ := hrel
    have k1 := g0.cell (j := 1) (v := .int .u8 pub) rfl
    have k2 := g0.cell (j := 2) (v := .int .u8 sec) rfl
    have hN2 := hN0.out
    by_cases hlt : j < N
    · have hlt' : (j : Int) < pub + sec := by omega
      have hsu := inpL_succ p j l
      have hle : Hid ((inpL p j l).length ≤ 600) := hide (by rw [inpL_len]; omega)
      clear hN2
      by_cases hjl : j < l.length
      · have hjl' : (j : Int) < l.length := by omega
        rw [if_pos hjl] at hsu
        obtain ⟨q2, off2, rfl, _, hd⟩ := (hl.mono hB).get hjl
        have hx := hA.get hjl
        have k0 := cell_later' (g0.cell (j := 0) (v := .int .u64 p) rfl)
        have hd' := cell_later' hd
        generalize l.getD j 0 = x at *
        have hmb := mod_lt' hp1 x
        obtain ⟨X, hX⟩ : ∃ X, X = x % p := ⟨_, rfl⟩
        rw [← hX] at hsu hmb
        have ht : x.tmod p = X := by rw [Int.tmod_eq_emod_of_nonneg hx.1, hX]
        have hp0 : (p == 0) = false := by rw [beq_eq_false_iff_ne]; omega
        replace hsu := hide hsu
        clear hX hd
        go_wp2_with fail
        refine wp_region_later Try.mixed (by kernel_rfl) ?_
        repeat (first | go_big_quiet_step (first | fail) | quiet_step (first | fail))
        refine wpQuiet_nil ?_
        intro w1 hb1
        replace hb1 := below_of_later hb1
        replace ow := ow.mono hb1
        replace hB := below2 hB hb1
        replace g0 := g0.mono hb1
        have hbz := hB.size
        clear k0 k1 k2 hd' ht hp0 hb1
        go_wp2_with (at_builtin; refine wpList_appX _ 22 .u64 X rfl _ _ 54 rfl w.heap.size 8 Try.underlying54 Try.infoU64 (by decide) _ _ _ rfl rfl (by simp) ow (by have := hle.out; omega) hbz ?_; intro v9 w9 own9 hg9; refine Hold.mk ?_)
        refine Hold.go ?_
        rw [← hsu.out] at own9
        have hB9 := hg9.below hB ow (Nat.le_refl _) hbz
        have g9 := hg9.blk g0 (own_neq ow g0 (by decide))
        clear ow hB g0 hg9 hle hsu
        go_wp2
        go_roundw
        case rel => exact ⟨j + 1, by omega, by go_num, own9, hB9, g9⟩
        case measure => simp [intOf]; omega
      · have hjl' : (l.length : Int) ≤ j := by omega
        rw [if_neg hjl] at hsu
        have hbz := hB.size
        replace hsu := hide hsu
        go_wp2_with (at_builtin; refine wpList_appX _ 22 .u64 0 rfl _ _ 54 rfl w.heap.size 8 Try.underlying54 Try.infoU64 (by decide) _ _ _ rfl rfl (by simp) ow (by have := hle.out; omega) hbz ?_; intro v9 w9 own9 hg9; refine Hold.mk ?_)
        refine Hold.go ?_
        rw [← hsu.out] at own9
        have hB9 := hg9.below hB ow (Nat.le_refl _) hbz
        have g9 := hg9.blk g0 (own_neq ow g0 (by decide))
        clear ow hB g0 hg9 hle hsu k1 k2
        go_wp2
        go_roundw
        case rel => exact ⟨j + 1, by omega, by go_num, own9, hB9, g9⟩
        case measure => simp [intOf]; omega
    · obtain rfl : j = N := by omega
      have hge : pub + sec ≤ (j : Int) := by omega
      clear hN2
      go_wp2
      go_ret
      exact ⟨_, rfl, ow, hB⟩

end Go.Proofs.Ytlgjnidphldiiaa
