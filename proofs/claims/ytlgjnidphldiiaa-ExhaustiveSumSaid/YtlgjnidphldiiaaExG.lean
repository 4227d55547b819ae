/- Exhaustive search: the count. -/
import Derived.Test.YtlgjnidphldiiaaExF
namespace Go.Proofs.Ytlgjnidphldiiaa
open Go.ChangeShapes Go.WideShapes Go.ChangeAt Go.RowKit

/-- What a count answers and leaves. -/
def RetCnt (w0 w : World) (q p V last gi gr gw : Nat) (IL : List Int) (R : List Row3) (Wl : List Int) (v : Nat) (most : Int) (en : Ending) (w' : World) : Prop :=
  en = .returned (.int .i64 (min most (cnt p R (V - v) (Wl.take v) : Int))) ∧ ∃ Wl', SS w0 w' q p V last gi gr gw IL R Wl' ∧ AllW Wl' ∧ Wl'.length = V ∧ Wl'.take v = Wl.take v ∧ KW gw w0.heap.size w w'

set_option maxRecDepth 10000 in
set_option maxHeartbeats 8000000 in
theorem countTop_any {w0 w : World} {q p V last gi gr gw : Nat} {IL : List Int} {R : List Row3} {Wl : List Int} (D : SS w0 w q p V last gi gr gw IL R Wl) (hA : AllW Wl) (hVl : Wl.length = V) (hV : V ≤ 65536) (hv : vld (p : Int) = true) (h257 : p ≤ 257) (hlast : ∀ r ∈ R, gtR r ≤ last) (hlV : last < V) (v : Nat) (most : Int) (hvV : v ≤ V) (hm : 0 ≤ most ∧ most ≤ 9223372036854775807) (hb : last < v ∨ most = 0) :
    Calls Try.prog 131 #[.pointer (some ⟨q, 0, none⟩), .int .i64 v, .int .i64 most] w (RetCnt w0 w q p V last gi gr gw IL R Wl v most) := by
  have hp := vld_pos hv
  have hlen : (Wl.take v).length = v := by rw [List.length_take]; omega
  have hres : powL p (V - v) most = min most (cnt p R (V - v) (Wl.take v) : Int) := by
    unfold powL
    rcases hb with hb | hb
    · rw [cnt_free p R (V - v) (Wl.take v) (fun r hr => by have := hlast r hr; omega), Int.min_comm]
    · subst hb
      omega
  have hret : ∀ w', Below w.heap.size w w' → RetCnt w0 w q p V last gi gr gw IL R Wl v most (.returned (.int .i64 (powL p (V - v) most))) w' := fun w' h => ⟨by rw [hres], Wl, D.mono h, hA, hVl, rfl, KW.of_below h D.below.size⟩
  have cP := fun W => power_any p (V - v) most W ⟨by omega, h257⟩ (by omega) hm
  obtain ⟨y, hy⟩ : ∃ y, powL p (V - v) most = y := ⟨_, rfl⟩
  rw [hy] at cP hret
  obtain ⟨n, hn⟩ : ∃ n, n = V - v := ⟨_, rfl⟩
  rw [← hn] at cP
  have hwr : IntKind.i64.wrap ((V : Int) - v) = (n : Int) := by rw [IntKind.wrap_i64]; omega
  replace hn := hide hn
  have hvI : (v : Int) ≤ V := by omega
  have k3 := D.blk.cell (j := 3) rfl
  clear hres hy hp
  obtain ⟨hm0, hm1⟩ := hm
  by_cases hlt : last < v
  · have hlt' : (last : Int) < v := by omega
    go_enter Try.func131, Try.ntmps131
    go_wp2_with fail
    refine Rel.region_any Try.mixed fun w4 hb4 => ?_
    have D4 := D.mono hb4
    refine Rel.any_held (fun W => W.cell? ⟨q, 0, none⟩ = some (.int .u64 p) ∧ W.cell? ⟨q, 4, none⟩ = some (.slice (some ⟨gw, 0, none⟩) V V)) 13 ⟨D4.blk.cell (j := 0) rfl, D4.blk.cell (j := 4) rfl⟩ fun hH0 => ?_
    refine Rel.heldTake (v := ?_) 0 rfl (by kernel_rfl) (by kernel_rfl) (by kernel_rfl) (fun _ _ _ h => h) (by assumption) (by rfl) ?_ ?_
    rotate_left
    · (intro W hSw; (try dsimp only at hSw); go_simp; try with_reducible rfl)
    try simp only [Act.put, List.setIfInBounds_toArray, List.set_cons_zero, List.set_cons_succ]
    refine Rel.heldTake (v := ?_) 1 rfl (by kernel_rfl) (by kernel_rfl) (by kernel_rfl) (fun _ _ _ h => h) (by assumption) (by rfl) ?_ ?_
    rotate_left
    · (intro W hSw; (try dsimp only at hSw); go_simp; try with_reducible rfl)
    try simp only [Act.put, List.setIfInBounds_toArray, List.set_cons_zero, List.set_cons_succ]
    refine Rel.heldTake (v := ?_) 2 rfl (by kernel_rfl) (by kernel_rfl) (by kernel_rfl) (fun _ _ _ h => h) (by assumption) (by rfl) ?_ ?_
    rotate_left
    · (intro W hSw; (try dsimp only at hSw); go_simp; try with_reducible rfl)
    try simp only [Act.put, List.setIfInBounds_toArray, List.set_cons_zero, List.set_cons_succ]
    refine Rel.heldTake (v := ?_) 3 rfl (by kernel_rfl) (by kernel_rfl) (by kernel_rfl) (fun _ _ _ h => h) (by assumption) (by rfl) ?_ ?_
    rotate_left
    · (intro W hSw; (try dsimp only at hSw); go_simp; try with_reducible rfl)
    try simp only [Act.put, List.setIfInBounds_toArray, List.set_cons_zero, List.set_cons_succ]
    refine Rel.heldTake (v := ?_) 4 rfl (by kernel_rfl) (by kernel_rfl) (by kernel_rfl) (fun _ _ _ h => h) (by assumption) (by rfl) ?_ ?_
    rotate_left
    · (intro W hSw; (try dsimp only at hSw); go_simp; try with_reducible rfl)
    try simp only [Act.put, List.setIfInBounds_toArray, List.set_cons_zero, List.set_cons_succ]
    refine Rel.heldTake (v := ?_) 5 rfl (by kernel_rfl) (by kernel_rfl) (by kernel_rfl) (fun _ _ _ h => h) (by assumption) (by rfl) ?_ ?_
    rotate_left
    · (intro W hSw; (try dsimp only at hSw); go_simp; try with_reducible rfl)
    try simp only [Act.put, List.setIfInBounds_toArray, List.set_cons_zero, List.set_cons_succ]
    refine Rel.heldTake (v := ?_) 6 rfl (by kernel_rfl) (by kernel_rfl) (by kernel_rfl) (fun _ _ _ h => h) (by assumption) (by rfl) ?_ ?_
    rotate_left
    · (intro W hSw; (try dsimp only at hSw); go_simp; try with_reducible rfl)
    try simp only [Act.put, List.setIfInBounds_toArray, List.set_cons_zero, List.set_cons_succ]
    refine Rel.heldTake (v := ?_) 7 rfl (by kernel_rfl) (by kernel_rfl) (by kernel_rfl) (fun _ _ _ h => h) (by assumption) (by rfl) ?_ ?_
    rotate_left
    · (intro W hSw; (try dsimp only at hSw); go_simp; try with_reducible rfl)
    try simp only [Act.put, List.setIfInBounds_toArray, List.set_cons_zero, List.set_cons_succ]
    refine Rel.heldTake (v := ?_) 8 rfl (by kernel_rfl) (by kernel_rfl) (by kernel_rfl) (fun _ _ _ h => h) (by assumption) (by rfl) ?_ ?_
    rotate_left
    · (intro W hSw; (try dsimp only at hSw); go_simp; try with_reducible rfl)
    try simp only [Act.put, List.setIfInBounds_toArray, List.set_cons_zero, List.set_cons_succ]
    refine Rel.heldTake (v := ?_) 9 rfl (by kernel_rfl) (by kernel_rfl) (by kernel_rfl) (fun _ _ _ h => h) (by assumption) (by rfl) ?_ ?_
    rotate_left
    · (intro W hSw; (try dsimp only at hSw); go_simp; try with_reducible rfl)
    try simp only [Act.put, List.setIfInBounds_toArray, List.set_cons_zero, List.set_cons_succ]
    refine Rel.heldTake (v := ?_) 10 rfl (by kernel_rfl) (by kernel_rfl) (by kernel_rfl) (fun _ _ _ h => h) (by assumption) (by rfl) ?_ ?_
    rotate_left
    · (intro W hSw; (try dsimp only at hSw); go_simp; try with_reducible rfl)
    try simp only [Act.put, List.setIfInBounds_toArray, List.set_cons_zero, List.set_cons_succ]
    refine Rel.heldTake (v := ?_) 11 rfl (by kernel_rfl) (by kernel_rfl) (by kernel_rfl) (fun _ _ _ h => h) (by assumption) (by rfl) ?_ ?_
    rotate_left
    · (intro W hSw; (try dsimp only at hSw); go_simp; try with_reducible rfl)
    try simp only [Act.put, List.setIfInBounds_toArray, List.set_cons_zero, List.set_cons_succ]
    refine Rel.heldNext 12 rfl (by kernel_rfl) fun K hK => ?_
    go_simp
    refine (cP w4).mono ?_
    rintro e w5 ⟨rfl, rfl⟩
    refine hK.out _ _ ⟨D4.blk.cell (j := 0) rfl, D4.blk.cell (j := 4) rfl⟩ (fun hH1 => ?_)
    clear hK K
    try simp only [Act.put, List.setIfInBounds_toArray, List.set_cons_zero, List.set_cons_succ]
    refine Rel.heldLast 13 rfl (by kernel_rfl) rfl (by kernel_rfl) fun K hK => ?_
    go_simp
    refine hK.out _ _ ?_
    clear hK K hH0 hH1
    go_wp2
    exact bodyPost_ret (v := .int .i64 y) (by simp [results, Try.results131, go_sem]) rfl (hret _ hb4)
  · have hlt' : ¬ (last : Int) < v := by omega
    obtain rfl : most = 0 := by omega
    go_enter Try.func131, Try.ntmps131
    go_wp2_with fail
    refine Rel.region_any Try.mixed fun w4 hb4 => ?_
    have D4 := D.mono hb4
    refine Rel.any_held (fun W => W.cell? ⟨q, 0, none⟩ = some (.int .u64 p) ∧ W.cell? ⟨q, 4, none⟩ = some (.slice (some ⟨gw, 0, none⟩) V V)) 13 ⟨D4.blk.cell (j := 0) rfl, D4.blk.cell (j := 4) rfl⟩ fun hH0 => ?_
    refine Rel.heldTake (v := ?_) 0 rfl (by kernel_rfl) (by kernel_rfl) (by kernel_rfl) (fun _ _ _ h => h) (by assumption) (by rfl) ?_ ?_
    rotate_left
    · (intro W hSw; (try dsimp only at hSw); go_simp; try with_reducible rfl)
    try simp only [Act.put, List.setIfInBounds_toArray, List.set_cons_zero, List.set_cons_succ]
    refine Rel.heldTake (v := ?_) 1 rfl (by kernel_rfl) (by kernel_rfl) (by kernel_rfl) (fun _ _ _ h => h) (by assumption) (by rfl) ?_ ?_
    rotate_left
    · (intro W hSw; (try dsimp only at hSw); go_simp; try with_reducible rfl)
    try simp only [Act.put, List.setIfInBounds_toArray, List.set_cons_zero, List.set_cons_succ]
    refine Rel.heldTake (v := ?_) 2 rfl (by kernel_rfl) (by kernel_rfl) (by kernel_rfl) (fun _ _ _ h => h) (by assumption) (by rfl) ?_ ?_
    rotate_left
    · (intro W hSw; (try dsimp only at hSw); go_simp; try with_reducible rfl)
    try simp only [Act.put, List.setIfInBounds_toArray, List.set_cons_zero, List.set_cons_succ]
    refine Rel.heldTake (v := ?_) 3 rfl (by kernel_rfl) (by kernel_rfl) (by kernel_rfl) (fun _ _ _ h => h) (by assumption) (by rfl) ?_ ?_
    rotate_left
    · (intro W hSw; (try dsimp only at hSw); go_simp; try with_reducible rfl)
    try simp only [Act.put, List.setIfInBounds_toArray, List.set_cons_zero, List.set_cons_succ]
    refine Rel.heldTake (v := ?_) 4 rfl (by kernel_rfl) (by kernel_rfl) (by kernel_rfl) (fun _ _ _ h => h) (by assumption) (by rfl) ?_ ?_
    rotate_left
    · (intro W hSw; (try dsimp only at hSw); go_simp; try with_reducible rfl)
    try simp only [Act.put, List.setIfInBounds_toArray, List.set_cons_zero, List.set_cons_succ]
    refine Rel.heldTake (v := ?_) 5 rfl (by kernel_rfl) (by kernel_rfl) (by kernel_rfl) (fun _ _ _ h => h) (by assumption) (by rfl) ?_ ?_
    rotate_left
    · (intro W hSw; (try dsimp only at hSw); go_simp; try with_reducible rfl)
    try simp only [Act.put, List.setIfInBounds_toArray, List.set_cons_zero, List.set_cons_succ]
    refine Rel.heldTake (v := ?_) 6 rfl (by kernel_rfl) (by kernel_rfl) (by kernel_rfl) (fun _ _ _ h => h) (by assumption) (by rfl) ?_ ?_
    rotate_left
    · (intro W hSw; (try dsimp only at hSw); go_simp; try with_reducible rfl)
    try simp only [Act.put, List.setIfInBounds_toArray, List.set_cons_zero, List.set_cons_succ]
    refine Rel.heldTake (v := ?_) 7 rfl (by kernel_rfl) (by kernel_rfl) (by kernel_rfl) (fun _ _ _ h => h) (by assumption) (by rfl) ?_ ?_
    rotate_left
    · (intro W hSw; (try dsimp only at hSw); go_simp; try with_reducible rfl)
    try simp only [Act.put, List.setIfInBounds_toArray, List.set_cons_zero, List.set_cons_succ]
    refine Rel.heldTake (v := ?_) 8 rfl (by kernel_rfl) (by kernel_rfl) (by kernel_rfl) (fun _ _ _ h => h) (by assumption) (by rfl) ?_ ?_
    rotate_left
    · (intro W hSw; (try dsimp only at hSw); go_simp; try with_reducible rfl)
    try simp only [Act.put, List.setIfInBounds_toArray, List.set_cons_zero, List.set_cons_succ]
    refine Rel.heldTake (v := ?_) 9 rfl (by kernel_rfl) (by kernel_rfl) (by kernel_rfl) (fun _ _ _ h => h) (by assumption) (by rfl) ?_ ?_
    rotate_left
    · (intro W hSw; (try dsimp only at hSw); go_simp; try with_reducible rfl)
    try simp only [Act.put, List.setIfInBounds_toArray, List.set_cons_zero, List.set_cons_succ]
    refine Rel.heldTake (v := ?_) 10 rfl (by kernel_rfl) (by kernel_rfl) (by kernel_rfl) (fun _ _ _ h => h) (by assumption) (by rfl) ?_ ?_
    rotate_left
    · (intro W hSw; (try dsimp only at hSw); go_simp; try with_reducible rfl)
    try simp only [Act.put, List.setIfInBounds_toArray, List.set_cons_zero, List.set_cons_succ]
    refine Rel.heldTake (v := ?_) 11 rfl (by kernel_rfl) (by kernel_rfl) (by kernel_rfl) (fun _ _ _ h => h) (by assumption) (by rfl) ?_ ?_
    rotate_left
    · (intro W hSw; (try dsimp only at hSw); go_simp; try with_reducible rfl)
    try simp only [Act.put, List.setIfInBounds_toArray, List.set_cons_zero, List.set_cons_succ]
    refine Rel.heldNext 12 rfl (by kernel_rfl) fun K hK => ?_
    go_simp
    refine (cP w4).mono ?_
    rintro e w5 ⟨rfl, rfl⟩
    refine hK.out _ _ ⟨D4.blk.cell (j := 0) rfl, D4.blk.cell (j := 4) rfl⟩ (fun hH1 => ?_)
    clear hK K
    try simp only [Act.put, List.setIfInBounds_toArray, List.set_cons_zero, List.set_cons_succ]
    refine Rel.heldLast 13 rfl (by kernel_rfl) rfl (by kernel_rfl) fun K hK => ?_
    go_simp
    refine hK.out _ _ ?_
    clear hK K hH0 hH1
    go_wp2
    exact bodyPost_ret (v := .int .i64 y) (by simp [results, Try.results131, go_sem]) rfl (hret _ hb4)
end Go.Proofs.Ytlgjnidphldiiaa
