/- semantics: scalar, elements, truth, calculate, below, inRange, newRun, examine. -/
import Derived.Test.YtalmgeefkcebdaaGreatDoorQ26
namespace Go.Proofs.YtalmgeefkcebdaaGreatDoor
open Go.RowKit

/-- The parts of a value of one element. -/
structure Sv where
  bx : Nat
  off : Nat
  c : Nat
def svV (v : Sv) : Value := .agg #[.slice (some ⟨v.bx, v.off, none⟩) 1 v.c, .bool false, .int .i64 0]
def IsSv (w : World) (v : Sv) (n : Int) : Prop := ∃ cs, Blk w v.bx cs 23 ∧ cs[v.off]? = some (.int .u64 n)
theorem IsSv.mono {w w' : World} {v : Sv} {n : Int} (h : IsSv w v n) (hb : Below w.heap.size w w') : IsSv w' v n := by
  obtain ⟨cs, h1, h2⟩ := h
  exact ⟨cs, h1.mono hb, h2⟩
theorem IsSv.cell {w : World} {v : Sv} {n : Int} (h : IsSv w v n) : w.cell? ⟨v.bx, v.off, none⟩ = some (.int .u64 n) := by
  obtain ⟨cs, h1, h2⟩ := h
  exact h1.cell h2
theorem IsSv.setT {w : World} {v : Sv} {n : Int} {g j : Nat} {cs : Array Value} {E : TypeId} {u : Value} (h : IsSv w v n) (gb : Blk w g cs E) (h1 : E ≠ 23) : IsSv (w.setCell ⟨g, j, none⟩ u) v n := by
  obtain ⟨cs, e2, e3⟩ := h
  exact ⟨cs, e2.other (fun e => by subst e; exact h1 (blk_type gb e2)) _ _, e3⟩
theorem IsSv.put {w w' : World} {v : Sv} {n : Int} {m : Nat} (h : IsSv w v n) (hp : PutM w w' m) : IsSv w' v n := by
  obtain ⟨cs, e2, e3⟩ := h
  exact ⟨cs, hp.blk e2, e3⟩
def RetSv (w : World) (n : Int) (e : Ending) (w' : World) : Prop := ∃ v, e = .returned (svV v) ∧ IsSv w' v n ∧ Below w.heap.size w w'
set_option maxHeartbeats 4000000 in
theorem sscalar_any (n : Int) (w : World) : Calls Tryz.prog 132 #[.int .u64 n] w (RetSv w n) := by
  obtain ⟨W7, hW7⟩ : ∃ W7, W7 = (w.alloc (.cells #[.slice (some ⟨w.heap.size + 1, 0, none⟩) 1 1, .bool false, .int .i64 0] 106)).alloc (.cells #[.int .u64 n] 23) := ⟨_, rfl⟩
  have hB : Below w.heap.size w W7 := by rw [hW7]; exact ((Below.refl _ _).alloc (Nat.le_refl _) _).alloc (by simp) _
  have gV : Blk W7 w.heap.size #[.slice (some ⟨w.heap.size + 1, 0, none⟩) 1 1, .bool false, .int .i64 0] 106 := by rw [hW7]; exact (Blk.newAt rfl).alloc _
  have gL : Blk W7 (w.heap.size + 1) #[.int .u64 n] 23 := by rw [hW7]; exact Blk.newAt (by simp)
  have z0 := gV.cell (j := 0) (v := .slice (some ⟨w.heap.size + 1, 0, none⟩) 1 1) rfl; have z1 := gV.cell (j := 1) (v := .bool false) rfl; have z2 := gV.cell (j := 2) (v := .int .i64 0) rfl
  go_enter Tryz.func132, Tryz.ntmps132
  go_wp2
  rw [← hW7]
  exact bodyPost_ret (v := .agg #[.slice (some ⟨w.heap.size + 1, 0, none⟩) 1 1, .bool false, .int .i64 0]) (by simp [results, Tryz.results132, go_sem, z0, z1, z2]) rfl ⟨⟨w.heap.size + 1, 0, 1⟩, rfl, ⟨_, gL, rfl⟩, hB⟩
set_option maxHeartbeats 4000000 in
theorem struth_any (b : Bool) (w : World) : Calls Tryz.prog 194 #[.bool b] w fun e w' => e = .returned (.int .u64 (if b = true then 1 else 0)) ∧ Below w.heap.size w w' := by
  have hrefl := Below.refl w.heap.size w
  cases b with
  | true =>
    go_enter Tryz.func194, Tryz.ntmps194
    go_wp2
    go_ret
    exact ⟨rfl, hrefl⟩
  | false =>
    go_enter Tryz.func194, Tryz.ntmps194
    go_wp2
    go_ret
    exact ⟨rfl, hrefl⟩
theorem mkU2 (W : World) : (Instr.makeSlice 52 (.int .i64 2) (.int .i64 2)).run Tryz.prog W = .ok (.slice (some ⟨W.heap.size, 0, none⟩) 2 2) (W.alloc (.cells #[.int .u64 0, .int .u64 0] 23)) := by
  have h := run_mkG (⟨fun (_ : Unit) => [.int .u64 0], 1, fun _ => rfl, by decide, fun _ u hu => by simp at hu; subst hu; rfl⟩ : Lay Unit) (P := Tryz.prog) (t := 52) (e := 23) Tryz.underlying52 (by kernel_rfl : (Tryz.prog.info? 23).map (fun i => (i.zero, i.size, i.bytes)) = some (some (.int .u64 0), 1, 8)) (by decide) (N := 2) (C := 2) 2 2 rfl rfl (Nat.le_refl _) (by omega) W
  rw [show madeCells (Value.int .u64 0).cells (2 * 1) = #[.int .u64 0, .int .u64 0] from by kernel_rfl] at h
  exact h
/-- Two values, in memory. -/
def svL (x y : Sv) : Array Value := #[.slice (some ⟨x.bx, x.off, none⟩) 1 x.c, .bool false, .int .i64 0, .slice (some ⟨y.bx, y.off, none⟩) 1 y.c, .bool false, .int .i64 0]
set_option maxRecDepth 10000 in
set_option maxHeartbeats 8000000 in
theorem selements2_any (w : World) (A : Nat) (x y : Sv) (m n : Int) (gA : Blk w A (svL x y) 106) (hx : IsSv w x m) (hy : IsSv w y n) :
    Calls Tryz.prog 135 #[.slice (some ⟨A, 0, none⟩) 2 2] w fun e w' => ∃ bl, e = .returned (.slice (some ⟨bl, 0, none⟩) 2 2) ∧ Blk w' bl #[.int .u64 m, .int .u64 n] 23 ∧ Below w.heap.size w w' := by
  have m2 := mkU2
  unfold svL at gA
  go_enter Tryz.func135, Tryz.ntmps135
  go_wp2_with fail
  refine name_world fun W hN => ?_
  have hb0 : Below w.heap.size w W := by rw [hN]; exact (Below.refl _ _).alloc (Nat.le_refl _) _
  have gL0 : Blk W w.heap.size #[.int .u64 0, .int .u64 0] 23 := by rw [hN]; exact Blk.newAt rfl
  clear hN m2
  go_loopw [11] (fun t11 wr => ∃ i : Nat, i ≤ 2 ∧ t11 = .int .i64 i ∧ Blk wr w.heap.size #[.int .u64 (if 0 < i then m else 0), .int .u64 (if 1 < i then n else 0)] 23 ∧ Below w.heap.size w wr) (fun t11 _ => 2 - (intOf t11).toNat)
  case atStart => exact ⟨0, by omega, rfl, gL0, hb0⟩
  case round =>
    clear gL0 hb0
    obtain ⟨i, hi, rfl, gL, hB⟩ := hrel
    have gA' := gA.mono hB
    have hx' := (hx.mono hB).cell
    have hy' := (hy.mono hB).cell
    rcases (show i = 0 ∨ i = 1 ∨ i = 2 by omega) with rfl | rfl | rfl
    · have v0 := gA'.cell (j := 0) (v := .slice (some ⟨x.bx, x.off, none⟩) 1 x.c) rfl; have v1 := gA'.cell (j := 1) (v := .bool false) rfl; have v2 := gA'.cell (j := 2) (v := .int .i64 0) rfl
      have hb1 : Below wr.heap.size wr (wr.alloc (.cells #[.slice (some ⟨x.bx, x.off, none⟩) 1 x.c, .bool false, .int .i64 0] 106)) := (Below.refl _ _).alloc (Nat.le_refl _) _
      have gL2 := gL.mono hb1
      have t0 := gL2.cell (j := 0) (v := .int .u64 0) rfl
      have tf := gL2.free
      have gL7 := gL2.set 0 (.int .u64 m)
      have hB7 := (below2 hB hb1).setCell (show w.heap.size ≤ (⟨w.heap.size, 0, none⟩ : Addr).block from Nat.le_refl _) (.int .u64 m)
      have hx1 := cell_below hb1 hx'
      clear gL gL2 hb1 hB gA' hy'
      go_wp2
      go_roundw
      case rel => exact ⟨1, by omega, rfl, gL7, hB7⟩
      case measure => simp [intOf]
    · have v0 := gA'.cell (j := 3) (v := .slice (some ⟨y.bx, y.off, none⟩) 1 y.c) rfl; have v1 := gA'.cell (j := 4) (v := .bool false) rfl; have v2 := gA'.cell (j := 5) (v := .int .i64 0) rfl
      have hb1 : Below wr.heap.size wr (wr.alloc (.cells #[.slice (some ⟨y.bx, y.off, none⟩) 1 y.c, .bool false, .int .i64 0] 106)) := (Below.refl _ _).alloc (Nat.le_refl _) _
      have gL2 := gL.mono hb1
      have t0 := gL2.cell (j := 1) (v := .int .u64 0) rfl
      have tf := gL2.free
      have gL7 := gL2.set 1 (.int .u64 n)
      have hB7 := (below2 hB hb1).setCell (show w.heap.size ≤ (⟨w.heap.size, 1, none⟩ : Addr).block from Nat.le_refl _) (.int .u64 n)
      have hy1 := cell_below hb1 hy'
      clear gL gL2 hb1 hB gA' hx'
      go_wp2
      go_roundw
      case rel => exact ⟨2, by omega, rfl, gL7, hB7⟩
      case measure => simp [intOf]
    · go_wp2
      go_ret
      exact ⟨w.heap.size, rfl, gL, hB⟩
/-- A run over the field p. -/
def RunP (w : World) (q : Nat) (p : Int) (f : Nat) : Prop := Blk w q #[.int .u64 p, .map (some f), .bool false] 164
theorem RunP.mono {w w' : World} {q f : Nat} {p : Int} (h : RunP w q p f) (hb : Below w.heap.size w w') : RunP w' q p f := Blk.mono h hb
set_option maxRecDepth 10000 in
set_option maxHeartbeats 8000000 in
theorem scalc11_any (w : World) (q f bl : Nat) (p val m n : Int) (s : ByteArray) (ad : Option Addr) (k c : Nat) (hq : RunP w q p f) (g : Blk w bl #[.int .u64 m, .int .u64 n] 23) (hp : 1 < p ∧ p < 18446744073709551616) (hm : 0 ≤ m ∧ m < p) (hn : 0 ≤ n ∧ n < p) :
    Calls Tryz.prog 136 #[.pointer (some ⟨q, 0, none⟩), .agg #[.int .i64 11, .int .u64 val, .string s, .slice ad k c], .slice (some ⟨bl, 0, none⟩) 2 2] w fun e w' => e = .returned (.int .u64 (fmul p m n)) ∧ Below w.heap.size w w' := by
  have q0 := Blk.cell hq (j := 0) (v := .int .u64 p) rfl
  have q0' := Blk.cell (Blk.alloc hq (.cells #[.int .i64 11, .int .u64 val, .string s, .slice ad k c] 29)) (j := 0) (v := .int .u64 p) rfl
  have cM := fun W => Mul_any p m n W (by omega) (by omega) (by omega) (by omega)
  go_enter Tryz.func136, Tryz.ntmps136
  go_wp2_with fail
  refine name_world fun W hN => ?_
  have hB : Below w.heap.size w W := by rw [hN]; exact ((Below.refl _ _).alloc (Nat.le_refl _) _).alloc (by simp) _
  have gF : Blk W (w.heap.size + 1) #[.int .u64 p] 72 := by rw [hN]; exact Blk.newAt (by simp)
  replace g := g.mono hB
  clear hN q0 q0' hq
  refine Rel.region_any Tryz.mixed fun w4 hb4 => ?_
  replace g := g.mono hb4
  replace gF := gF.mono hb4
  replace hB := below2 hB hb4
  refine Rel.any_held (fun W => W.cell? ⟨w.heap.size + 1, 0, none⟩ = some (.int .u64 p) ∧ W.cell? ⟨bl, 0, none⟩ = some (.int .u64 m) ∧ W.cell? ⟨bl, 1, none⟩ = some (.int .u64 n)) 8 ⟨gF.cell (j := 0) rfl, g.cell (j := 0) rfl, g.cell (j := 1) rfl⟩ fun hH0 => ?_
  refine Rel.tk (v := ?_) 0 ?_ ?_
  rotate_left
  · (intro W hSw; (try dsimp only at hSw); go_simp; try with_reducible rfl)
  try simp only [Act.put, List.setIfInBounds_toArray, List.set_cons_zero, List.set_cons_succ]
  refine Rel.tk (v := ?_) 1 ?_ ?_
  rotate_left
  · (intro W hSw; (try dsimp only at hSw); go_simp; try with_reducible rfl)
  try simp only [Act.put, List.setIfInBounds_toArray, List.set_cons_zero, List.set_cons_succ]
  refine Rel.tk (v := ?_) 2 ?_ ?_
  rotate_left
  · (intro W hSw; (try dsimp only at hSw); go_simp; try with_reducible rfl)
  try simp only [Act.put, List.setIfInBounds_toArray, List.set_cons_zero, List.set_cons_succ]
  refine Rel.tk (v := ?_) 3 ?_ ?_
  rotate_left
  · (intro W hSw; (try dsimp only at hSw); go_simp; try with_reducible rfl)
  try simp only [Act.put, List.setIfInBounds_toArray, List.set_cons_zero, List.set_cons_succ]
  refine Rel.tk (v := ?_) 4 ?_ ?_
  rotate_left
  · (intro W hSw; (try dsimp only at hSw); go_simp; try with_reducible rfl)
  try simp only [Act.put, List.setIfInBounds_toArray, List.set_cons_zero, List.set_cons_succ]
  refine Rel.tk (v := ?_) 5 ?_ ?_
  rotate_left
  · (intro W hSw; (try dsimp only at hSw); go_simp; try with_reducible rfl)
  try simp only [Act.put, List.setIfInBounds_toArray, List.set_cons_zero, List.set_cons_succ]
  refine Rel.tk (v := ?_) 6 ?_ ?_
  rotate_left
  · (intro W hSw; (try dsimp only at hSw); go_simp; try with_reducible rfl)
  try simp only [Act.put, List.setIfInBounds_toArray, List.set_cons_zero, List.set_cons_succ]
  refine Rel.heldNext 7 rfl (by kernel_rfl) fun K hK => ?_
  go_simp
  refine (cM w4).mono ?_
  rintro e w5 ⟨rfl, hb5⟩
  replace g := g.mono hb5
  replace gF := gF.mono hb5
  replace hB := below2 hB hb5
  refine hK.out _ _ ⟨gF.cell (j := 0) rfl, g.cell (j := 0) rfl, g.cell (j := 1) rfl⟩ (fun hH1 => ?_)
  clear hK K
  try simp only [Act.put, List.setIfInBounds_toArray, List.set_cons_zero, List.set_cons_succ]
  refine Rel.heldLast 8 rfl (by kernel_rfl) rfl (by kernel_rfl) fun K hK => ?_
  go_simp
  refine hK.out _ _ ?_
  clear hK K hH0 hH1
  go_wp2
  go_ret
  exact ⟨rfl, hB⟩
set_option maxRecDepth 10000 in
set_option maxHeartbeats 8000000 in
theorem scalc14_any (w : World) (q f bl : Nat) (p val m n : Int) (s : ByteArray) (ad : Option Addr) (k c : Nat) (hq : RunP w q p f) (g : Blk w bl #[.int .u64 m, .int .u64 n] 23) :
    Calls Tryz.prog 136 #[.pointer (some ⟨q, 0, none⟩), .agg #[.int .i64 14, .int .u64 val, .string s, .slice ad k c], .slice (some ⟨bl, 0, none⟩) 2 2] w fun e w' => e = .returned (.int .u64 (if m = n then 1 else 0)) ∧ Below w.heap.size w w' := by
  have q0 := Blk.cell hq (j := 0) (v := .int .u64 p) rfl
  have q0' := Blk.cell (Blk.alloc hq (.cells #[.int .i64 14, .int .u64 val, .string s, .slice ad k c] 29)) (j := 0) (v := .int .u64 p) rfl
  have cT := fun W => struth_any (decide (m = n)) W
  rw [show (if decide (m = n) = true then (1 : Int) else 0) = if m = n then 1 else 0 by simp] at cT
  obtain ⟨r, hr⟩ : ∃ r : Int, (if m = n then 1 else 0) = r := ⟨_, rfl⟩
  rw [hr] at cT ⊢
  obtain ⟨d, hd⟩ : ∃ d : Bool, d = decide (m = n) := ⟨_, rfl⟩
  have hd2 : (m == n) = d := by rw [hd]; rfl
  rw [← hd] at cT
  clear hr hd
  go_enter Tryz.func136, Tryz.ntmps136
  go_wp2_with fail
  refine name_world fun W hN => ?_
  have hB : Below w.heap.size w W := by rw [hN]; exact ((Below.refl _ _).alloc (Nat.le_refl _) _).alloc (by simp) _
  replace g := g.mono hB
  clear hN q0 q0' hq
  refine Rel.region_any Tryz.mixed fun w4 hb4 => ?_
  replace g := g.mono hb4
  replace hB := below2 hB hb4
  refine Rel.any_held (fun W => W.cell? ⟨bl, 0, none⟩ = some (.int .u64 m) ∧ W.cell? ⟨bl, 1, none⟩ = some (.int .u64 n)) 8 ⟨g.cell (j := 0) rfl, g.cell (j := 1) rfl⟩ fun hH0 => ?_
  refine Rel.tk (v := ?_) 0 ?_ ?_
  rotate_left
  · (intro W hSw; (try dsimp only at hSw); go_simp; try with_reducible rfl)
  try simp only [Act.put, List.setIfInBounds_toArray, List.set_cons_zero, List.set_cons_succ]
  refine Rel.tk (v := ?_) 1 ?_ ?_
  rotate_left
  · (intro W hSw; (try dsimp only at hSw); go_simp; try with_reducible rfl)
  try simp only [Act.put, List.setIfInBounds_toArray, List.set_cons_zero, List.set_cons_succ]
  refine Rel.tk (v := ?_) 2 ?_ ?_
  rotate_left
  · (intro W hSw; (try dsimp only at hSw); go_simp; try with_reducible rfl)
  try simp only [Act.put, List.setIfInBounds_toArray, List.set_cons_zero, List.set_cons_succ]
  refine Rel.tk (v := ?_) 3 ?_ ?_
  rotate_left
  · (intro W hSw; (try dsimp only at hSw); go_simp; try with_reducible rfl)
  try simp only [Act.put, List.setIfInBounds_toArray, List.set_cons_zero, List.set_cons_succ]
  refine Rel.tk (v := ?_) 4 ?_ ?_
  rotate_left
  · (intro W hSw; (try dsimp only at hSw); go_simp; try with_reducible rfl)
  try simp only [Act.put, List.setIfInBounds_toArray, List.set_cons_zero, List.set_cons_succ]
  refine Rel.tk (v := ?_) 5 ?_ ?_
  rotate_left
  · (intro W hSw; (try dsimp only at hSw); go_simp; try with_reducible rfl)
  try simp only [Act.put, List.setIfInBounds_toArray, List.set_cons_zero, List.set_cons_succ]
  refine Rel.heldNext 6 rfl (by kernel_rfl) fun K hK => ?_
  go_simp
  refine hK.out _ _ ⟨g.cell (j := 0) rfl, g.cell (j := 1) rfl⟩ (fun hH1 => ?_)
  clear hK K
  try simp only [Act.put, List.setIfInBounds_toArray, List.set_cons_zero, List.set_cons_succ]
  refine Rel.heldNext 7 rfl (by kernel_rfl) fun K hK => ?_
  go_simp
  refine (cT w4).mono ?_
  rintro e w5 ⟨rfl, hb5⟩
  replace g := g.mono hb5
  replace hB := below2 hB hb5
  refine hK.out _ _ ⟨g.cell (j := 0) rfl, g.cell (j := 1) rfl⟩ (fun hH2 => ?_)
  clear hK K
  try simp only [Act.put, List.setIfInBounds_toArray, List.set_cons_zero, List.set_cons_succ]
  refine Rel.heldLast 8 rfl (by kernel_rfl) rfl (by kernel_rfl) fun K hK => ?_
  go_simp
  refine hK.out _ _ ?_
  clear hK K hH0 hH1 hH2
  go_wp2
  go_ret
  exact ⟨rfl, hB⟩
set_option maxRecDepth 10000 in
set_option maxHeartbeats 4000000 in
theorem sbelow1_any (w : World) (b off c : Nat) (n p : Int) (hc : w.cell? ⟨b, off, none⟩ = some (.int .u64 n)) (hn : n < p) :
    Calls Tryz.prog 36 #[.slice (some ⟨b, off, none⟩) 1 c, .int .u64 p] w fun e w' => e = .returned (.bool true) ∧ Below w.heap.size w w' := by
  have hrefl := Below.refl w.heap.size w
  go_enter Tryz.func36, Tryz.ntmps36
  go_wp2_with fail
  go_loopw [9] (fun t9 wr => ∃ i : Nat, i ≤ 1 ∧ t9 = .int .i64 i ∧ wr = w) (fun t9 _ => 1 - (intOf t9).toNat)
  case atStart => exact ⟨0, by omega, rfl, rfl⟩
  case round =>
    obtain ⟨i, hi, rfl, rfl⟩ := hrel
    rcases (show i = 0 ∨ i = 1 by omega) with rfl | rfl
    · have hnp : ¬ p ≤ n := by omega
      go_wp2
      go_roundw
      case rel => exact ⟨1, by omega, rfl, by trivial⟩
      case measure => simp [intOf]
    · go_wp2
      go_ret
      exact ⟨rfl, hrefl⟩
set_option maxRecDepth 10000 in
set_option maxHeartbeats 4000000 in
theorem sinRange1_any (w : World) (v : Sv) (n : Int) (hv : IsSv w v n) :
    Calls Tryz.prog 38 #[svV v, .agg #[.int .i64 1, .int .i64 0, .int .i64 0]] w fun e w' => e = .returned (.bool true) ∧ Below w.heap.size w w' := by
  obtain ⟨W, hW⟩ : ∃ W, W = (w.alloc (.cells #[.slice (some ⟨v.bx, v.off, none⟩) 1 v.c, .bool false, .int .i64 0] 106)).alloc (.cells #[.int .i64 1, .int .i64 0, .int .i64 0] 32) := ⟨_, rfl⟩
  have hB : Below w.heap.size w W := by rw [hW]; exact ((Below.refl _ _).alloc (Nat.le_refl _) _).alloc (by simp) _
  have gT : Blk W (w.heap.size + 1) #[.int .i64 1, .int .i64 0, .int .i64 0] 32 := by rw [hW]; exact Blk.newAt (by simp)
  have hc := (hv.mono hB).cell
  have g0 := gT.cell (j := 0) (v := .int .i64 1) rfl
  unfold svV
  clear hv gT
  go_enter Tryz.func38, Tryz.ntmps38
  go_wp2_with fail
  rw [← hW]
  clear hW
  go_loopw [10] (fun t10 wr => ∃ i : Nat, i ≤ 1 ∧ t10 = .int .i64 i ∧ wr = W) (fun t10 _ => 1 - (intOf t10).toNat)
  case atStart => exact ⟨0, by omega, rfl, rfl⟩
  case round =>
    obtain ⟨i, hi, rfl, rfl⟩ := hrel
    rcases (show i = 0 ∨ i = 1 by omega) with rfl | rfl
    · go_wp2
      go_roundw
      case rel => exact ⟨1, by omega, rfl, by trivial⟩
      case measure => simp [intOf]
    · go_wp2
      go_ret
      exact ⟨rfl, hB⟩
set_option maxRecDepth 10000 in
set_option maxHeartbeats 4000000 in
theorem newRun_any (v : Value) (ds : List (Bool × ByteArray)) (t : Tr) (p : Int) (w : World) (h : PgP w v ds t) :
    Calls Tryz.prog 37 #[v, .int .u64 p] w fun e w' => ∃ q f, e = .returned (.pointer (some ⟨q, 0, none⟩)) ∧ RunP w' q p f ∧ Below w.heap.size w w' := by
  have hmm := @run_makeMap Tryz.prog
  obtain ⟨bd, cd, b, c, ev, rfl, _, _, _⟩ := h.ex
  generalize ds.length = n at *
  clear h
  go_enter Tryz.func37, Tryz.ntmps37
  go_wp2_with fail
  refine name_world fun W hN => ?_
  have hB : Below w.heap.size w W := by rw [hN]; exact (((Below.refl _ _).alloc (Nat.le_refl _) _).alloc (by simp) _).alloc (by simp; omega) _
  have gR : Blk W (w.heap.size + 1 + 1) #[.int .u64 p, .map (some (w.heap.size + 1)), .bool false] 164 := by rw [hN]; exact Blk.newAt (by simp)
  clear hN hmm
  go_loopw [16] (fun t16 wr => t16 = .int .i64 0 ∧ wr = W) (fun _ _ => 0)
  case atStart => exact ⟨rfl, rfl⟩
  case round =>
    obtain ⟨rfl, rfl⟩ := hrel
    go_wp2
    go_ret
    exact ⟨_, _, rfl, gR, hB⟩
set_option maxHeartbeats 4000000 in
theorem sexamine_any (v : Value) (ds : List (Bool × ByteArray)) (t : Tr) (o : PgOk ds t) (p : Int) (hv : vld p = true) (w : World) (h : PgP w v ds t) :
    Calls Tryz.prog 35 #[v, .int .u64 p] w fun e w' => e = .returned (.int .i64 0) ∧ Below w.heap.size w w' := by
  have cC := fun W (hb : Below w.heap.size w W) => Check17_any v ds t o W (h.mono hb)
  have cF := fun W (hb : Below w.heap.size w W) => Fits17_any v ds t o p hv W (h.mono hb)
  obtain ⟨bd, cd, b, c, ev, rfl, _, _, _⟩ := h.ex
  generalize ds.length = n at *
  clear o h hv
  go_enter Tryz.func35, Tryz.ntmps35
  go_wp2_with fail
  refine name_calls fun W hN => ?_
  have hB : Below w.heap.size w W := by rw [hN]; exact (Below.refl _ _).alloc (Nat.le_refl _) _
  have gA : Blk W w.heap.size #[.slice none 0 0, .slice (some ⟨bd, 0, none⟩) n cd, .slice (some ⟨b, 0, none⟩) 1 c] 41 := by rw [hN]; exact Blk.newAt rfl
  clear hN
  refine (cC W hB).mono ?_
  rintro e w1 ⟨rfl, hb1⟩
  replace gA := gA.mono hb1
  have hB1 := below2 hB hb1
  have a0 := gA.cell (j := 0) (v := .slice none 0 0) rfl; have a1 := gA.cell (j := 1) (v := .slice (some ⟨bd, 0, none⟩) n cd) rfl; have a2 := gA.cell (j := 2) (v := .slice (some ⟨b, 0, none⟩) 1 c) rfl
  clear hB hb1 cC
  go_wp2_with fail
  refine (cF w1 hB1).mono ?_
  rintro e w2 ⟨rfl, hb2⟩
  go_wp2
  go_ret
  exact ⟨rfl, below2 hB1 hb2⟩

def getS : List (ByteArray × Int) → ByteArray → Option Int
  | [], _ => none
  | p :: r, s => match s == p.1 with
    | true => some p.2
    | false => getS r s
def NsR (w : World) : List (ByteArray × Value) → List (ByteArray × Int) → Prop
  | [], [] => True
  | p :: r, p' :: r' => p.1 = p'.1 ∧ (∃ v, p.2 = svV v ∧ IsSv w v p'.2) ∧ NsR w r r'
  | _, _ => False
theorem NsR.get {w : World} {s : ByteArray} : ∀ {L : List (ByteArray × Value)} {N : List (ByteArray × Int)}, NsR w L N → (getS N s = none → getM L s = none) ∧ ∀ n, getS N s = some n → ∃ v, getM L s = some (svV v) ∧ IsSv w v n
  | [], [], _ => ⟨fun _ => rfl, fun l h => by cases h⟩
  | [], _ :: _, h => h.elim
  | _ :: _, [], h => h.elim
  | p :: r, p' :: r', ⟨h1, ⟨v, h2, h3⟩, h4⟩ => by
    have ih := NsR.get (s := s) h4
    cases hb : (s == p.1) with
    | true =>
      have e1 : getM (p :: r) s = some p.2 := by unfold getM; rw [hb]
      have e2 : getS (p' :: r') s = some p'.2 := by unfold getS; rw [← h1, hb]
      rw [e1, e2]
      exact ⟨fun h => (by cases h), fun l h => (by cases h; exact ⟨v, by rw [h2], h3⟩)⟩
    | false =>
      have e1 : getM (p :: r) s = getM r s := by
        show (match s == p.1 with | true => some p.2 | false => getM r s) = getM r s
        rw [hb]
      have e2 : getS (p' :: r') s = getS r' s := by
        show (match s == p'.1 with | true => some p'.2 | false => getS r' s) = getS r' s
        rw [← h1, hb]
      rw [e1, e2]
      exact ih
theorem NsR.imp {w w' : World} (hI : ∀ v n, IsSv w v n → IsSv w' v n) : ∀ {L : List (ByteArray × Value)} {N : List (ByteArray × Int)}, NsR w L N → NsR w' L N
  | [], [], _ => trivial
  | [], _ :: _, h => h.elim
  | _ :: _, [], h => h.elim
  | _ :: _, _ :: _, ⟨h1, ⟨v, h2, h3⟩, h4⟩ => ⟨h1, ⟨v, h2, hI _ _ h3⟩, NsR.imp hI h4⟩
theorem NsR.snoc {w : World} {a : ByteArray} {v : Sv} {n : Int} (hv : IsSv w v n) : ∀ {L : List (ByteArray × Value)} {N : List (ByteArray × Int)}, NsR w L N → NsR w (L ++ [(a, svV v)]) (N ++ [(a, n)])
  | [], [], _ => ⟨rfl, ⟨v, rfl, hv⟩, trivial⟩
  | [], _ :: _, h => h.elim
  | _ :: _, [], h => h.elim
  | _ :: _, _ :: _, ⟨h1, h2, h4⟩ => ⟨h1, h2, NsR.snoc hv h4⟩
def NsP (w : World) (mm : Nat) (N : List (ByteArray × Int)) : Prop := ∃ L, Mp w mm L ∧ NsR w L N
theorem NsP.mono {w w' : World} {mm : Nat} {N : List (ByteArray × Int)} (h : NsP w mm N) (hb : Below w.heap.size w w') : NsP w' mm N := by
  obtain ⟨L, h1, h2⟩ := h
  exact ⟨L, h1.mono hb, h2.imp fun _ _ h => h.mono hb⟩
theorem NsP.setT {w : World} {mm : Nat} {N : List (ByteArray × Int)} {g j : Nat} {cs : Array Value} {E : TypeId} {u : Value} (h : NsP w mm N) (gb : Blk w g cs E) (e1 : E ≠ 23) : NsP (w.setCell ⟨g, j, none⟩ u) mm N := by
  obtain ⟨L, h1, h2⟩ := h
  exact ⟨L, h1.set gb, h2.imp fun _ _ h => h.setT gb e1⟩
/-- The value of an expression of products and comparisons. -/
def sv (p : Int) (N : List (ByteArray × Int)) : Tr → Int
  | .nm s => (getS N s).getD 0
  | .bin op _ l r => if op = 11 then fmul p (sv p N l) (sv p N r) else if sv p N l = sv p N r then 1 else 0
def Tr.sok (N : List (ByteArray × Int)) : Tr → Prop
  | .nm s => (getS N s).isSome = true
  | .bin op _ l r => (op = 11 ∨ op = 14) ∧ l.sok N ∧ r.sok N
theorem mkSv2 (W : World) : (Instr.makeSlice 217 (.int .i64 2) (.int .i64 2)).run Tryz.prog W = .ok (.slice (some ⟨W.heap.size, 0, none⟩) 2 2) (W.alloc (.cells #[.slice none 0 0, .bool false, .int .i64 0, .slice none 0 0, .bool false, .int .i64 0] 106)) := by
  have hi : (Tryz.prog.info? 106).map (fun i => (i.zero, i.size, i.bytes)) = some (some (.agg #[.slice none 0 0, .bool false, .int .i64 0]), 3, 40) := by kernel_rfl
  have h := run_mkG (⟨fun (_ : Unit) => [.slice none 0 0, .bool false, .int .i64 0], 3, fun _ => rfl, by decide, fun _ u hu => by simp at hu; rcases hu with rfl | rfl | rfl <;> rfl⟩ : Lay Unit) (P := Tryz.prog) (t := 217) (e := 106) Tryz.underlying217 hi (by decide) (N := 2) (C := 2) 2 2 rfl rfl (Nat.le_refl _) (by omega) W
  rw [show madeCells (Value.agg #[.slice none 0 0, .bool false, .int .i64 0]).cells (2 * 3) = #[.slice none 0 0, .bool false, .int .i64 0, .slice none 0 0, .bool false, .int .i64 0] from by kernel_rfl] at h
  exact h
set_option maxRecDepth 10000 in
set_option maxHeartbeats 8000000 in
theorem sval_nm {q mm : Nat} {N : List (ByteArray × Int)} (s : ByteArray) (n : Int) (w : World) (hm : NsP w mm N) (hs : getS N s = some n) :
    Calls Tryz.prog 79 #[.pointer (some ⟨q, 0, none⟩), evV ⟨2, 0, s, none, 0, 0⟩, .map (some mm)] w (RetSv w n) := by
  obtain ⟨L, hM, hR⟩ := hm
  obtain ⟨v, hget, iv⟩ := hR.get.2 n hs
  obtain ⟨W, hW⟩ : ∃ W, W = (w.alloc (.cells #[.int .i64 2, .int .u64 0, .string s, .slice none 0 0] 29)).alloc (.cells #[.slice none 0 0, .bool false, .int .i64 0] 106) := ⟨_, rfl⟩
  have hbW : Below w.heap.size w W := by rw [hW]; exact ((Below.refl _ _).alloc (Nat.le_refl _) _).alloc (by simp) _
  have hlk := run_look (t := 104) (k := 9) (e := 106) (P := Tryz.prog) Tryz.underlying104 Tryz.underlying9 (hM.mono hbW) false hget
  rw [if_neg (by decide)] at hlk
  rw [hW] at hlk
  obtain ⟨W7, hW7⟩ : ∃ W7, W7 = (w.alloc (.cells #[.int .i64 2, .int .u64 0, .string s, .slice none 0 0] 29)).alloc (.cells #[.slice (some ⟨v.bx, v.off, none⟩) 1 v.c, .bool false, .int .i64 0] 106) := ⟨_, rfl⟩
  have hB : Below w.heap.size w W7 := by rw [hW7]; exact ((Below.refl _ _).alloc (Nat.le_refl _) _).alloc (by simp) _
  have gV : Blk W7 (w.heap.size + 1) #[.slice (some ⟨v.bx, v.off, none⟩) 1 v.c, .bool false, .int .i64 0] 106 := by rw [hW7]; exact Blk.newAt (by simp)
  have z0 := gV.cell (j := 0) (v := .slice (some ⟨v.bx, v.off, none⟩) 1 v.c) rfl; have z1 := gV.cell (j := 1) (v := .bool false) rfl; have z2 := gV.cell (j := 2) (v := .int .i64 0) rfl
  have F : RetSv w n (.returned (.agg #[.slice (some ⟨v.bx, v.off, none⟩) 1 v.c, .bool false, .int .i64 0])) W7 := ⟨v, rfl, iv.mono hB, hB⟩
  unfold evV
  unfold svV at hlk
  clear hbW hW hB gV iv hR hM hget hs
  go_enter Tryz.func79, Tryz.ntmps79
  go_wp2
  rw [← hW7]
  exact bodyPost_ret (v := .agg #[.slice (some ⟨v.bx, v.off, none⟩) 1 v.c, .bool false, .int .i64 0]) (by simp [results, Tryz.results79, go_sem, z0, z1, z2]) rfl F
/-- Two operands, behind i of them. -/
structure SaS (w wr : World) (op val : Int) (bb : Nat) (x y : Ev) (i : Nat) (v1 v2 : Sv) (m n : Int) : Prop where
  a : Blk wr w.heap.size #[.int .i64 op, .int .u64 val, .string ⟨#[]⟩, .slice (some ⟨bb, 0, none⟩) 2 2] 29
  z : Blk wr (w.heap.size + 1) #[.slice none 0 0, .bool false, .int .i64 0] 106
  t : Blk wr (w.heap.size + 1 + 1) #[if 0 < i then .slice (some ⟨v1.bx, v1.off, none⟩) 1 v1.c else .slice none 0 0, .bool false, .int .i64 0, if 1 < i then .slice (some ⟨v2.bx, v2.off, none⟩) 1 v2.c else .slice none 0 0, .bool false, .int .i64 0] 106
  g : Blk wr bb #[.int .i64 x.op, .int .u64 x.val, .string x.nm, .slice x.ad x.n x.c, .int .i64 y.op, .int .u64 y.val, .string y.nm, .slice y.ad y.n y.c] 29
  below : Below w.heap.size w wr
  ne : bb < w.heap.size
  i1 : 0 < i → IsSv wr v1 m
  i2 : 1 < i → IsSv wr v2 n
theorem SaS.mono {w wr w' : World} {op val : Int} {bb : Nat} {x y : Ev} {i : Nat} {v1 v2 : Sv} {m n : Int} (h : SaS w wr op val bb x y i v1 v2 m n) (hb : Below wr.heap.size wr w') : SaS w w' op val bb x y i v1 v2 m n :=
  ⟨h.a.mono hb, h.z.mono hb, h.t.mono hb, h.g.mono hb, below2 h.below hb, h.ne, fun hi => (h.i1 hi).mono hb, fun hi => (h.i2 hi).mono hb⟩
set_option maxRecDepth 10000 in
set_option maxHeartbeats 64000000 in
theorem sval_bin {q mm : Nat} {m n r : Int} (op val : Int) (hop : op = 11 ∨ op = 14) (w : World) (bb : Nat) (x y : Ev)
    (g : Blk w bb #[.int .i64 x.op, .int .u64 x.val, .string x.nm, .slice x.ad x.n x.c, .int .i64 y.op, .int .u64 y.val, .string y.nm, .slice y.ad y.n y.c] 29)
    (cX : ∀ W, Below w.heap.size w W → Calls Tryz.prog 79 #[.pointer (some ⟨q, 0, none⟩), evV x, .map (some mm)] W (RetSv W m))
    (cY : ∀ W, Below w.heap.size w W → Calls Tryz.prog 79 #[.pointer (some ⟨q, 0, none⟩), evV y, .map (some mm)] W (RetSv W n))
    (cO : ∀ W bl, Below w.heap.size w W → Blk W bl #[.int .u64 m, .int .u64 n] 23 → Calls Tryz.prog 136 #[.pointer (some ⟨q, 0, none⟩), evV ⟨op, val, ⟨#[]⟩, some ⟨bb, 0, none⟩, 2, 2⟩, .slice (some ⟨bl, 0, none⟩) 2 2] W fun e w' => e = .returned (.int .u64 r) ∧ Below W.heap.size W w') :
    Calls Tryz.prog 79 #[.pointer (some ⟨q, 0, none⟩), evV ⟨op, val, ⟨#[]⟩, some ⟨bb, 0, none⟩, 2, 2⟩, .map (some mm)] w (RetSv w r) := by
  have m2 := mkSv2
  have o2 : (op == 2) = false := beq_eq_false_iff_ne.2 (by omega)
  have o8 : (op == 8) = false := beq_eq_false_iff_ne.2 (by omega)
  have o5 : (op == 5) = false := beq_eq_false_iff_ne.2 (by omega)
  have o6 : (op == 6) = false := beq_eq_false_iff_ne.2 (by omega)
  have o7 : (op == 7) = false := beq_eq_false_iff_ne.2 (by omega)
  have o20 : (op == 20) = false := beq_eq_false_iff_ne.2 (by omega)
  clear hop
  unfold evV at *
  go_enter Tryz.func79, Tryz.ntmps79
  go_wp2_with fail
  refine name_world fun W hN => ?_
  have hB : Below w.heap.size w W := by rw [hN]; exact (((Below.refl _ _).alloc (Nat.le_refl _) _).alloc (by simp) _).alloc (by simp; omega) _
  have gA : Blk W w.heap.size #[.int .i64 op, .int .u64 val, .string ⟨#[]⟩, .slice (some ⟨bb, 0, none⟩) 2 2] 29 := by rw [hN]; exact ((Blk.newAt rfl).alloc _).alloc _
  have gZ : Blk W (w.heap.size + 1) #[.slice none 0 0, .bool false, .int .i64 0] 106 := by rw [hN]; exact (Blk.newAt (by simp)).alloc _
  have gT : Blk W (w.heap.size + 1 + 1) #[.slice none 0 0, .bool false, .int .i64 0, .slice none 0 0, .bool false, .int .i64 0] 106 := by rw [hN]; exact Blk.newAt (by simp)
  have hblt := g.lt
  have S0 : SaS w W op val bb x y 0 ⟨0, 0, 0⟩ ⟨0, 0, 0⟩ m n := ⟨gA, gZ, gT, g.mono hB, hB, hblt, fun h => absurd h (by decide), fun h => absurd h (by decide)⟩
  clear hN m2 gA gZ gT hB g
  go_loopw [48] (fun t48 wr => ∃ i : Nat, i ≤ 2 ∧ t48 = .int .i64 i ∧ ∃ v1 v2, SaS w wr op val bb x y i v1 v2 m n) (fun t48 _ => 2 - (intOf t48).toNat)
  case atStart => exact ⟨0, by omega, rfl, _, _, S0⟩
  case round =>
    clear S0
    obtain ⟨i, hi, rfl, hS⟩ := hrel
    rcases (show i = 0 ∨ i = 1 ∨ i = 2 by omega) with rfl | rfl | rfl
    · obtain ⟨v1, v2, T⟩ := hS
      have c0 := T.g.cell (j := 0) (v := .int .i64 x.op) rfl; have c1 := T.g.cell (j := 1) (v := .int .u64 x.val) rfl; have c2 := T.g.cell (j := 2) (v := .string x.nm) rfl; have c3 := T.g.cell (j := 3) (v := .slice x.ad x.n x.c) rfl
      have hb1 : Below wr.heap.size wr (wr.alloc (.cells #[.int .i64 x.op, .int .u64 x.val, .string x.nm, .slice x.ad x.n x.c] 29)) := (Below.refl _ _).alloc (Nat.le_refl _) _
      have T1 := T.mono hb1
      clear T
      go_wp2_with fail
      refine (cX _ T1.below).mono ?_
      rintro e w2 ⟨u, rfl, iu, hb2⟩
      unfold svV
      have T2 := T1.mono hb2
      have h1lt := T2.a.lt
      have h2lt := T2.t.lt
      clear c0 c1 c2 c3 T1 hb1 hb2
      have t0 := T2.t.cell (j := 0) (v := .slice none 0 0) rfl; have t1 := T2.t.cell (j := 1) (v := .bool false) rfl; have t2 := T2.t.cell (j := 2) (v := .int .i64 0) rfl
      have tf := T2.t.free
      obtain ⟨W7, hW7⟩ : ∃ W7, W7 = ((w2.setCell ⟨w.heap.size + 1 + 1, 0, none⟩ (.slice (some ⟨u.bx, u.off, none⟩) 1 u.c)).setCell ⟨w.heap.size + 1 + 1, 1, none⟩ (.bool false)).setCell ⟨w.heap.size + 1 + 1, 2, none⟩ (.int .i64 0) := ⟨_, rfl⟩
      have S7 : SaS w W7 op val bb x y 1 u v2 m n := by
        rw [hW7]
        have hne := T2.ne
        have g1 := T2.t.set 0 (.slice (some ⟨u.bx, u.off, none⟩) 1 u.c)
        have g2 := g1.set 1 (.bool false)
        have g3 := g2.set 2 (.int .i64 0)
        have hle : w.heap.size ≤ w.heap.size + 1 + 1 := by omega
        exact ⟨((T2.a.other (by omega) _ _).other (by omega) _ _).other (by omega) _ _, ((T2.z.other (by omega) _ _).other (by omega) _ _).other (by omega) _ _, g3, ((T2.g.other (by omega) _ _).other (by omega) _ _).other (by omega) _ _, ((T2.below.setCell hle _).setCell hle _).setCell hle _, hne, fun _ => ((iu.setT T2.t (by decide)).setT g1 (by decide)).setT g2 (by decide), fun h => absurd h (by decide)⟩
      rw [hW7] at S7
      clear hW7 T2 iu
      go_wp2
      go_roundw
      case rel => exact ⟨1, by omega, rfl, u, v2, S7⟩
      case measure => simp [intOf]
    · obtain ⟨v1, v2, T⟩ := hS
      have c0 := T.g.cell (j := 4) (v := .int .i64 y.op) rfl; have c1 := T.g.cell (j := 5) (v := .int .u64 y.val) rfl; have c2 := T.g.cell (j := 6) (v := .string y.nm) rfl; have c3 := T.g.cell (j := 7) (v := .slice y.ad y.n y.c) rfl
      have hb1 : Below wr.heap.size wr (wr.alloc (.cells #[.int .i64 y.op, .int .u64 y.val, .string y.nm, .slice y.ad y.n y.c] 29)) := (Below.refl _ _).alloc (Nat.le_refl _) _
      have T1 := T.mono hb1
      clear T
      go_wp2_with fail
      refine (cY _ T1.below).mono ?_
      rintro e w2 ⟨u, rfl, iu, hb2⟩
      unfold svV
      have T2 := T1.mono hb2
      have h1lt := T2.a.lt
      have h2lt := T2.t.lt
      clear c0 c1 c2 c3 T1 hb1 hb2
      have t0 := T2.t.cell (j := 3) (v := .slice none 0 0) rfl; have t1 := T2.t.cell (j := 4) (v := .bool false) rfl; have t2 := T2.t.cell (j := 5) (v := .int .i64 0) rfl
      have tf := T2.t.free
      obtain ⟨W7, hW7⟩ : ∃ W7, W7 = ((w2.setCell ⟨w.heap.size + 1 + 1, 3, none⟩ (.slice (some ⟨u.bx, u.off, none⟩) 1 u.c)).setCell ⟨w.heap.size + 1 + 1, 4, none⟩ (.bool false)).setCell ⟨w.heap.size + 1 + 1, 5, none⟩ (.int .i64 0) := ⟨_, rfl⟩
      have S7 : SaS w W7 op val bb x y 2 v1 u m n := by
        rw [hW7]
        have hne := T2.ne
        have g1 := T2.t.set 3 (.slice (some ⟨u.bx, u.off, none⟩) 1 u.c)
        have g2 := g1.set 4 (.bool false)
        have g3 := g2.set 5 (.int .i64 0)
        have hle : w.heap.size ≤ w.heap.size + 1 + 1 := by omega
        exact ⟨((T2.a.other (by omega) _ _).other (by omega) _ _).other (by omega) _ _, ((T2.z.other (by omega) _ _).other (by omega) _ _).other (by omega) _ _, g3, ((T2.g.other (by omega) _ _).other (by omega) _ _).other (by omega) _ _, ((T2.below.setCell hle _).setCell hle _).setCell hle _, hne, fun _ => (((T2.i1 (by decide)).setT T2.t (by decide)).setT g1 (by decide)).setT g2 (by decide), fun _ => ((iu.setT T2.t (by decide)).setT g1 (by decide)).setT g2 (by decide)⟩
      rw [hW7] at S7
      clear hW7 T2 iu
      go_wp2
      go_roundw
      case rel => exact ⟨2, by omega, rfl, v1, u, S7⟩
      case measure => simp [intOf]
    · obtain ⟨v1, v2, T⟩ := hS
      have a0 := T.a.cell (j := 0) (v := .int .i64 op) rfl
      clear cX cY
      go_wp2_with fail
      refine Rel.region_any Tryz.mixed fun w4 hb4 => ?_
      have T4 := T.mono hb4
      clear a0 T hb4
      have i1 := T4.i1 (by decide)
      have i2 := T4.i2 (by decide)
      refine Rel.any_held (fun W => W.cell? ⟨w.heap.size, 0, none⟩ = some (.int .i64 op) ∧ W.cell? ⟨w.heap.size, 1, none⟩ = some (.int .u64 val) ∧ W.cell? ⟨w.heap.size, 2, none⟩ = some (.string ⟨#[]⟩) ∧ W.cell? ⟨w.heap.size, 3, none⟩ = some (.slice (some ⟨bb, 0, none⟩) 2 2)) 6 ⟨T4.a.cell (j := 0) rfl, T4.a.cell (j := 1) rfl, T4.a.cell (j := 2) rfl, T4.a.cell (j := 3) rfl⟩ fun hH0 => ?_
      refine Rel.tk (v := ?_) 0 ?_ ?_
      rotate_left
      · (intro W hSw; (try dsimp only at hSw); go_simp; try with_reducible rfl)
      try simp only [Act.put, List.setIfInBounds_toArray, List.set_cons_zero, List.set_cons_succ]
      refine Rel.tk (v := ?_) 1 ?_ ?_
      rotate_left
      · (intro W hSw; (try dsimp only at hSw); go_simp; try with_reducible rfl)
      try simp only [Act.put, List.setIfInBounds_toArray, List.set_cons_zero, List.set_cons_succ]
      refine Rel.tk (v := ?_) 2 ?_ ?_
      rotate_left
      · (intro W hSw; (try dsimp only at hSw); go_simp; try with_reducible rfl)
      try simp only [Act.put, List.setIfInBounds_toArray, List.set_cons_zero, List.set_cons_succ]
      refine Rel.heldNext 3 rfl (by kernel_rfl) fun K hK => ?_
      go_simp
      refine (selements2_any w4 _ v1 v2 m n T4.t i1 i2).mono ?_
      rintro e w5 ⟨bl, rfl, gl, hb5⟩
      have T5 := T4.mono hb5
      clear T4 i1 i2 hb5
      refine hK.out _ _ ⟨T5.a.cell (j := 0) rfl, T5.a.cell (j := 1) rfl, T5.a.cell (j := 2) rfl, T5.a.cell (j := 3) rfl⟩ (fun hH1 => ?_)
      clear hK K
      try simp only [Act.put, List.setIfInBounds_toArray, List.set_cons_zero, List.set_cons_succ]
      refine Rel.heldNext 4 rfl (by kernel_rfl) fun K hK => ?_
      go_simp
      refine (cO w5 bl T5.below gl).mono ?_
      rintro e w6 ⟨rfl, hb6⟩
      have T6 := T5.mono hb6
      clear T5 gl hb6 cO
      refine hK.out _ _ ⟨T6.a.cell (j := 0) rfl, T6.a.cell (j := 1) rfl, T6.a.cell (j := 2) rfl, T6.a.cell (j := 3) rfl⟩ (fun hH2 => ?_)
      clear hK K
      try simp only [Act.put, List.setIfInBounds_toArray, List.set_cons_zero, List.set_cons_succ]
      refine Rel.heldNext 5 rfl (by kernel_rfl) fun K hK => ?_
      go_simp
      refine (sscalar_any r w6).mono ?_
      rintro e w7 ⟨u, rfl, iu, hb7⟩
      unfold svV
      have T7 := T6.mono hb7
      clear T6 hb7
      refine hK.out _ _ ⟨T7.a.cell (j := 0) rfl, T7.a.cell (j := 1) rfl, T7.a.cell (j := 2) rfl, T7.a.cell (j := 3) rfl⟩ (fun hH3 => ?_)
      clear hK K
      try simp only [Act.put, List.setIfInBounds_toArray, List.set_cons_zero, List.set_cons_succ]
      refine Rel.heldLast 6 rfl (by kernel_rfl) rfl (by kernel_rfl) fun K hK => ?_
      have y0 := T7.z.cell (j := 0) (v := .slice none 0 0) rfl; have y1 := T7.z.cell (j := 1) (v := .bool false) rfl; have y2 := T7.z.cell (j := 2) (v := .int .i64 0) rfl
      have zf := T7.z.free
      have hzl := T7.z.lt
      obtain ⟨W9, hW9⟩ : ∃ W9, W9 = ((w7.setCell ⟨w.heap.size + 1, 0, none⟩ (.slice (some ⟨u.bx, u.off, none⟩) 1 u.c)).setCell ⟨w.heap.size + 1, 1, none⟩ (.bool false)).setCell ⟨w.heap.size + 1, 2, none⟩ (.int .i64 0) := ⟨_, rfl⟩
      have F9 : RetSv w r (.returned (.agg #[.slice (some ⟨u.bx, u.off, none⟩) 1 u.c, .bool false, .int .i64 0])) W9 ∧ Blk W9 (w.heap.size + 1) #[.slice (some ⟨u.bx, u.off, none⟩) 1 u.c, .bool false, .int .i64 0] 106 := by
        rw [hW9]
        have g1 := T7.z.set 0 (.slice (some ⟨u.bx, u.off, none⟩) 1 u.c)
        have g2 := g1.set 1 (.bool false)
        have g3 := g2.set 2 (.int .i64 0)
        have hle : w.heap.size ≤ w.heap.size + 1 := by omega
        exact ⟨⟨u, rfl, ((iu.setT T7.z (by decide)).setT g1 (by decide)).setT g2 (by decide), ((T7.below.setCell hle _).setCell hle _).setCell hle _⟩, g3⟩
      obtain ⟨F9, g5⟩ := F9
      have z0 := g5.cell (j := 0) (v := .slice (some ⟨u.bx, u.off, none⟩) 1 u.c) rfl; have z1 := g5.cell (j := 1) (v := .bool false) rfl; have z2 := g5.cell (j := 2) (v := .int .i64 0) rfl
      clear iu T7 g5
      go_simp
      rw [← hW9]
      refine hK.out _ _ ?_
      clear hK K hH0 hH1 hH2 hH3 y0 y1 y2 zf hW9
      go_wp2
      exact bodyPost_ret (v := .agg #[.slice (some ⟨u.bx, u.off, none⟩) 1 u.c, .bool false, .int .i64 0]) (by simp [results, Tryz.results79, go_sem, z0, z1, z2]) rfl F9
theorem sv_bd {p : Int} {N : List (ByteArray × Int)} (hv : vld p = true) (hN : ∀ s n, getS N s = some n → 0 ≤ n ∧ n < p) : ∀ t : Tr, 0 ≤ sv p N t ∧ sv p N t < p
  | .nm s => by
    have hp := vld_pos hv
    show 0 ≤ (getS N s).getD 0 ∧ (getS N s).getD 0 < p
    cases h : getS N s with
    | none => exact ⟨Int.le_refl _, by show (0 : Int) < p; omega⟩
    | some n => exact hN s n h
  | .bin op val l r => by
    have hp : 1 < p := by rcases vld_cases hv with h | h | h | h | h | h | h <;> omega
    show 0 ≤ (if op = 11 then fmul p (sv p N l) (sv p N r) else if sv p N l = sv p N r then 1 else 0) ∧ (if op = 11 then fmul p (sv p N l) (sv p N r) else if sv p N l = sv p N r then 1 else 0) < p
    split
    · rw [fmul_eq hv]
      exact ⟨Int.emod_nonneg _ (by omega), Int.emod_lt_of_pos _ (by omega)⟩
    · split <;> omega
theorem sval_any {q f mm : Nat} {p : Int} {N : List (ByteArray × Int)} (hv : vld p = true) (hN : ∀ s n, getS N s = some n → 0 ≤ n ∧ n < p) : ∀ (t : Tr), t.sok N → ∀ (w : World) (P : Nat → Prop) (ev : Ev), Rep w P t ev → RunP w q p f → NsP w mm N →
    Calls Tryz.prog 79 #[.pointer (some ⟨q, 0, none⟩), evV ev, .map (some mm)] w (RetSv w (sv p N t))
  | .nm s, hok, w, P, ev, hR, hq, hm => by
    have hR : ev = ⟨2, 0, s, none, 0, 0⟩ := hR
    subst hR
    have hok : (getS N s).isSome = true := hok
    obtain ⟨n, hn⟩ := Option.isSome_iff_exists.1 hok
    have e : sv p N (.nm s) = n := by show (getS N s).getD 0 = n; rw [hn]; rfl
    rw [e]
    exact sval_nm s n w hm hn
  | .bin op val l r, ⟨hop, okl, okr⟩, w, P, ev, hR, hq, hm => by
    obtain ⟨b, x, y, rfl, _, g, hl, hr⟩ := hR
    have b1 := sv_bd hv hN l
    have b2 := sv_bd hv hN r
    have hp : 1 < p ∧ p < 18446744073709551616 := by rcases vld_cases hv with h | h | h | h | h | h | h <;> omega
    refine sval_bin op val hop w b x y g (fun W hb => sval_any hv hN l okl W P x (hl.mono hb) (hq.mono hb) (hm.mono hb)) (fun W hb => sval_any hv hN r okr W P y (hr.mono hb) (hq.mono hb) (hm.mono hb)) (fun W bl hb gl => ?_)
    unfold evV
    rcases hop with rfl | rfl
    · exact scalc11_any W q f bl p val _ _ _ _ _ _ (hq.mono hb) gl hp b1 b2
    · exact scalc14_any W q f bl p val _ _ _ _ _ _ (hq.mono hb) gl
theorem fieldSv (b off c : Nat) (W : World) : Sem.run Tryz.prog (Instr.field 106 (.agg #[.slice (some ⟨b, off, none⟩) 1 c, .bool false, .int .i64 0]) 0) W = .ok (.slice (some ⟨b, off, none⟩) 1 c) W := by kernel_rfl
set_option maxRecDepth 10000 in
set_option maxHeartbeats 16000000 in
theorem sexec_any {q f mm : Nat} {w : World} {p r : Int} (bs c : Nat) (ev : Ev) (hq : RunP w q p f) (hS : StP w bs ev) (hr : r ≠ 0)
    (cV : ∀ W, Below w.heap.size w W → Calls Tryz.prog 79 #[.pointer (some ⟨q, 0, none⟩), evV ev, .map (some mm)] W (RetSv W r)) :
    Calls Tryz.prog 39 #[.pointer (some ⟨q, 0, none⟩), .slice (some ⟨bs, 0, none⟩) 1 c, .map (some mm)] w fun e w' => e = .returned (.bool true) ∧ Below w.heap.size w w' := by
  have hrf : (r == 0) = false := beq_eq_false_iff_ne.2 hr
  have hr2 : ¬ r = 0 := hr
  unfold evV at cV
  go_enter Tryz.func39, Tryz.ntmps39
  go_wp2_with fail
  go_loopw [12] (fun t12 wr => ∃ i : Nat, i ≤ 1 ∧ t12 = .int .i64 i ∧ (i = 0 → wr = w) ∧ Below w.heap.size w wr) (fun t12 _ => 1 - (intOf t12).toNat)
  case atStart => exact ⟨0, by omega, rfl, fun _ => rfl, Below.refl _ _⟩
  case round =>
    obtain ⟨i, hi, rfl, hA, hB⟩ := hrel
    rcases (show i = 0 ∨ i = 1 by omega) with rfl | rfl
    · obtain rfl := hA rfl
      clear hA hB
      have s0 := hS 0 (.int .i64 2) rfl
      have s1 := hS 1 (.string ⟨#[]⟩) rfl
      have s2 := hS 2 (.bool false) rfl
      have s3 := hS 3 (.int .i64 0) rfl
      have s4 := hS 4 (.int .i64 0) rfl
      have s5 := hS 5 (.int .i64 0) rfl
      have s6 := hS 6 (.int .i64 ev.op) rfl
      have s7 := hS 7 (.int .u64 ev.val) rfl
      have s8 := hS 8 (.string ev.nm) rfl
      have s9 := hS 9 (.slice ev.ad ev.n ev.c) rfl
      have s10 := hS 10 (.int .i64 0) rfl
      have s11 := hS 11 (.int .i64 0) rfl
      have s12 := hS 12 (.slice none 0 0) rfl
      obtain ⟨W, hW⟩ : ∃ W, W = wr.alloc (.cells #[.int .i64 2, .string ⟨#[]⟩, .bool false, .int .i64 0, .int .i64 0, .int .i64 0, .int .i64 ev.op, .int .u64 ev.val, .string ev.nm, .slice ev.ad ev.n ev.c, .int .i64 0, .int .i64 0, .slice none 0 0] 38) := ⟨_, rfl⟩
      have hb1 : Below wr.heap.size wr W := by rw [hW]; exact (Below.refl _ _).alloc (Nat.le_refl _) _
      have q2 := Blk.cell (hq.mono hb1) (j := 2) (v := .bool false) rfl
      have c1 := cV W hb1
      have hfd := fieldSv
      unfold RetSv svV at c1
      rw [hW] at q2
      clear cV hS
      go_wp2_with fail
      rw [← hW]
      clear hW s0 s1 s2 s3 s4 s5 s6 s7 s8 s9 s10 s11 s12 q2
      refine c1.mono ?_
      rintro e w2 ⟨u, rfl, iu, hb2⟩
      have u0 := iu.cell
      have hb12 := below2 hb1 hb2
      clear hb1 hb2 c1
      go_wp2
      go_roundw
      case rel => exact ⟨1, by omega, rfl, fun h => absurd h (by decide), hb12⟩
      case measure => simp [intOf]
    · have q2 := Blk.cell (hq.mono hB) (j := 2) (v := .bool false) rfl
      clear hA cV
      go_wp2
      go_ret
      exact ⟨rfl, hB⟩
end Go.Proofs.YtalmgeefkcebdaaGreatDoor

