/- Gadgets: the closure at of run: an earlier result. -/
import Derived.Test.YtlgjnidphldiiaaGadVX
namespace Go.Proofs.Ytlgjnidphldiiaa
open Go.RowKit

set_option maxHeartbeats 2000000 in
theorem at_any (n : Int) (q B : Nat) (ad : Option Addr) (c : Nat) (Ls : List Lc) (i : Nat) (w : World) (hn : 0 ≤ n ∧ n < 256) (gq : Blk w q #[.slice ad Ls.length c] 55) (ow : OwnG lcL w B 44 (.slice ad Ls.length c) Ls) (hl : Ls.length ≤ 100000) (hi : (i : Int) = n % Ls.length) (h0 : 0 < Ls.length) :
    Calls Try.prog 84 #[.int .u8 n, .pointer (some ⟨q, 0, none⟩)] w fun e w' => e = .returned (.slice (Ls.getD i default).ad (Ls.getD i default).l.length (Ls.getD i default).cap) ∧ Below w.heap.size w w' := by
  have hm := mod_lt' (show (0 : Int) < Ls.length by omega) n
  have hiL : i < Ls.length := by omega
  rcases ow.form with ⟨_, e0⟩ | ⟨g, cap, cur, e4, _⟩
  · rw [e0] at h0; simp at h0
  obtain rfl : ad = some ⟨g, 0, none⟩ := by injection e4
  have he := ow.cellE (i := i) (j := 0) default hiL (by decide) rfl
  rw [show i * lcL.m + 0 = i from by show i * 1 + 0 = i; omega] at he
  have he' := cell_later' (show w.cell? ⟨g, i, none⟩ = some (.slice (Ls.getD i default).ad (Ls.getD i default).l.length (Ls.getD i default).cap) from he)
  have k0 := cell_later' (gq.cell (j := 0) (v := .slice (some ⟨g, 0, none⟩) Ls.length c) rfl)
  generalize Ls.getD i default = u at *
  have hL0 : (0 : Int) < Ls.length := by omega
  have t1 : n.tmod (Ls.length : Int) = (i : Int) := by rw [Int.tmod_eq_emod_of_nonneg hn.1, hi]
  have hiL' : (i : Int) < Ls.length := by omega
  replace hi := hide hi
  clear he hm
  go_enter Try.func84, Try.ntmps84
  go_wp2_with fail
  refine wp_region_later Try.mixed (by kernel_rfl) ?_
  repeat (first | go_big_quiet_step (first | fail) | quiet_step (first | fail))
  refine wpQuiet_nil ?_
  intro w1 hb1
  replace hb1 := below_of_later hb1
  go_wp2
  go_ret
  exact ⟨rfl, hb1⟩
end Go.Proofs.Ytlgjnidphldiiaa
