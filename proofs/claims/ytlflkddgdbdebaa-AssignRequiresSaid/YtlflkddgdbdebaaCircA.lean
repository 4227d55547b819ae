/- Circuits: the laws' own functions: variable, example, own, short, awake. -/
import Derived.Test.YtlflkddgdbdebaaCircN
import Derived.Test.YtlflkddgdbdebaaCircS
namespace Go.Proofs.Ytlflkddgdbdebaa
open Go.RowKit

/-- A slice of terms is returned. -/
def RetLin (w : World) (L : List (Int × Int)) (e : Ending) (w' : World) : Prop := ∃ b, e = .returned (.slice (some ⟨b, 0, none⟩) L.length 1) ∧ w.heap.size ≤ b ∧ LcOk w' ⟨some ⟨b, 0, none⟩, 1, L⟩ ∧ Below w.heap.size w w'
/-- All blocks but one stay. -/
structure Kp (c : Nat) (w w' : World) : Prop where
  size : w.heap.size ≤ w'.heap.size
  block : ∀ k, k < w.heap.size → k ≠ c → w'.heap[k]? = w.heap[k]?
theorem Kp.refl (c : Nat) (w : World) : Kp c w w := ⟨Nat.le_refl _, fun _ _ _ => rfl⟩
theorem Kp.set {c : Nat} {w w' : World} (h : Kp c w w') (j : Nat) (v : Value) : Kp c w (w'.setCell ⟨c, j, none⟩ v) :=
  ⟨by
    show _ ≤ (w'.heap.modify c _).size
    simpa using h.size, fun k hk hc => by
    show (w'.heap.modify c _)[k]? = _
    rw [Array.getElem?_modify, if_neg (fun e => hc e.symm)]
    exact h.block k hk hc⟩
theorem Kp.blk {c b : Nat} {w w' : World} {cs : Array Value} {T : TypeId} (h : Kp c w w') (g : Blk w b cs T) (hb : b ≠ c) : Blk w' b cs T := by
  have := h.block b g.lt hb
  unfold Blk at *
  rw [this]; exact g
theorem Kp.lc {c b off cap : Nat} {w w' : World} {L : List (Int × Int)} (h : Kp c w w') (g : LcOk w ⟨some ⟨b, off, none⟩, cap, L⟩) (hb : b ≠ c) : LcOk w' ⟨some ⟨b, off, none⟩, cap, L⟩ :=
  ⟨fun h0 => by
    obtain ⟨b2, off2, e, hl, hc⟩ := g.sl h0
    cases e
    refine ⟨b, off, rfl, Nat.lt_of_lt_of_le hl h.size, fun i hi => ?_⟩
    have e1 := h.block b hl hb
    exact ⟨by rw [World.cell?_of_block (w := w) e1]; exact (hc i hi).1, by rw [World.cell?_of_block (w := w) e1]; exact (hc i hi).2⟩, g.wl, g.le, g.mx⟩

theorem LinS.one {w : World} {b : Nat} {v c : Int} (g : Blk w b #[.int .i64 v, .int .u64 c] 53) : LinS w (some ⟨b, 0, none⟩) [(v, c)] := fun _ =>
  ⟨b, 0, rfl, g.lt, fun i hi => by
    have : i = 0 := by simpa using hi
    subst this
    exact ⟨g.cell (j := 0) rfl, g.cell (j := 1) rfl⟩⟩

set_option maxHeartbeats 1600000 in
theorem variable_any (v : Int) (w : World) (hv : (Lit.int .i64 v).wf = true) : Calls Try.prog 23 #[.int .i64 v] w (RetLin w [(v, 1)]) := by
  have hr : ∀ w', Blk w' w.heap.size #[.int .i64 v, .int .u64 1] 53 → Below w.heap.size w w' → RetLin w [(v, 1)] (.returned (.slice (some ⟨w.heap.size, 0, none⟩) 1 1)) w' := fun w' g hb =>
    ⟨_, rfl, Nat.le_refl _, ⟨LinS.one g, fun t ht => by
      rw [List.mem_singleton] at ht
      subst ht
      exact ⟨hv, show (Lit.int .u64 1).wf = true by decide⟩, by simp, by simp [maxLen]⟩, hb⟩
  clear hv
  go_enter Try.func23, Try.ntmps23
  go_wp2
  go_ret
  exact hr _ (Blk.newAt rfl) ((Below.refl _ _).alloc (Nat.le_refl _) _)

/-- The example's rows and hints. -/
def exR (x y z : Option Addr) : List Rw := [⟨⟨x, 1, [(1, 1)]⟩, ⟨y, 1, [(2, 1)]⟩, ⟨z, 1, [(0, 1)]⟩⟩]
def exH (t : Option Addr) : List Hn := [⟨2, ⟨t, 1, [(1, 1)]⟩, ⟨none, 0, []⟩, 0⟩]
def RetEx (w : World) (e : Ending) (w' : World) : Prop := ∃ x y z t ra ha, e = .returned (.agg #[.int .u64 97, .int .i64 1, .int .i64 3, .slice ra 1 1, .int .i64 0, .slice ha 1 1]) ∧ RowsP w' ra 1 (exR x y z) ∧ HintsP w' ha 1 (exH t) ∧ Below w.heap.size w w'

theorem ex_cir (x y z t : Option Addr) : cirOk 97 1 3 (exR x y z) 0 (exH t) = true := by kernel_rfl
theorem ex_sat (x y z t : Option Addr) : satL 97 1 3 (exR x y z) 0 (exH t) [5] [] = [1, 5, 39] ∧ satE 97 1 3 (exR x y z) 0 (exH t) [5] [] = 0 := ⟨by kernel_rfl, by kernel_rfl⟩
theorem ex_run (x y z t : Option Addr) : runL 97 1 3 (exR x y z) 0 (exH t) [0] [] = [1, 0, 0] ∧ runE 97 1 3 (exR x y z) 0 (exH t) [0] [] = 0 := ⟨by kernel_rfl, by kernel_rfl⟩
theorem ex_uns (x y z t : Option Addr) : satE 97 1 3 (exR x y z) 0 (exH t) [0] [] = 9 := by kernel_rfl

theorem RowsP.one {w : World} {b : Nat} {x y z : Lc} (g : Blk w b #[.slice x.ad x.l.length x.cap, .slice y.ad y.l.length y.cap, .slice z.ad z.l.length z.cap] 51) (hx : LcOk w x) (hy : LcOk w y) (hz : LcOk w z) : RowsP w (some ⟨b, 0, none⟩) 1 [⟨x, y, z⟩] :=
  ⟨fun _ => ⟨b, 0, rfl, g.lt, fun i hi => by
    have : i = 0 := by simpa using hi
    subst this
    exact ⟨g.cell (j := 0) rfl, g.cell (j := 1) rfl, g.cell (j := 2) rfl⟩⟩, fun r hr => by
    rw [List.mem_singleton] at hr
    subst hr
    exact ⟨hx, hy, hz⟩, by simp, by simp [maxLen], fun h => by cases h⟩
theorem HintsP.one {w : World} {b : Nat} {k : Int} {x y : Lc} {bit : Int} (g : Blk w b #[.int .i64 k, .slice x.ad x.l.length x.cap, .slice y.ad y.l.length y.cap, .int .i64 bit] 42) (hx : LcOk w x) (hy : LcOk w y) (hk : (Lit.int .i64 k).wf = true) (hb : (Lit.int .i64 bit).wf = true) : HintsP w (some ⟨b, 0, none⟩) 1 [⟨k, x, y, bit⟩] :=
  ⟨fun _ => ⟨b, 0, rfl, g.lt, fun i hi => by
    have : i = 0 := by simpa using hi
    subst this
    exact ⟨g.cell (j := 0) rfl, g.cell (j := 1) rfl, g.cell (j := 2) rfl, g.cell (j := 3) rfl⟩⟩, fun r hr => by
    rw [List.mem_singleton] at hr
    subst hr
    exact ⟨hx, hy, hk, hb⟩, by simp, by simp [maxLen], fun h => by cases h⟩
theorem LcOk.nil (w : World) : LcOk w ⟨none, 0, []⟩ := ⟨fun h => absurd h (by simp), fun t ht => (by cases ht), by simp, by simp⟩

set_option maxHeartbeats 1600000 in
theorem example_any (w : World) : Calls Try.prog 35 #[] w (RetEx w) := by
  go_enter Try.func35, Try.ntmps35
  go_wp2_with fail
  refine name_calls fun W hN => ?_
  have g0 := Blk.newAt (w := w) (b := w.heap.size) (cs := #[.int .u64 0, .int .i64 0, .int .i64 0, .slice none 0 0, .int .i64 0, .slice none 0 0]) (T := 28) rfl
  rw [← hN] at g0
  have hB : Below w.heap.size w W := by rw [hN]; exact (Below.refl _ _).alloc (Nat.le_refl _) _
  clear hN
  have p0 := g0.lt
  refine (variable_any 1 W (by decide)).mono ?_
  rintro e w1 ⟨x, rfl, lx, hx, hb1⟩
  replace g0 := g0.mono hb1
  replace hB := below2 hB hb1
  clear hb1
  go_wp2_with fail
  have p1 := g0.lt
  refine (variable_any 2 w1 (by decide)).mono ?_
  rintro e w2 ⟨y, rfl, ly, hy, hb2⟩
  replace g0 := g0.mono hb2
  replace hx := hx.mono hb2
  replace hB := below2 hB hb2
  clear hb2
  go_wp2_with fail
  have p2 := g0.lt
  refine (variable_any 0 w2 (by decide)).mono ?_
  rintro e w3 ⟨z, rfl, lz, hz, hb3⟩
  replace g0 := g0.mono hb3
  replace hx := hx.mono hb3
  replace hy := hy.mono hb3
  replace hB := below2 hB hb3
  clear hb3
  go_wp2_with fail
  refine name_calls fun W4 hN => ?_
  have hb4 : Below w3.heap.size w3 W4 := by rw [hN]; exact (Below.refl _ _).alloc (Nat.le_refl _) _
  have gR : Blk W4 w3.heap.size #[.slice (some ⟨x, 0, none⟩) 1 1, .slice (some ⟨y, 0, none⟩) 1 1, .slice (some ⟨z, 0, none⟩) 1 1] 51 := by rw [hN]; exact Blk.newAt rfl
  clear hN
  have p3 := g0.lt
  replace g0 := g0.mono hb4
  replace hx := hx.mono hb4
  replace hy := hy.mono hb4
  replace hz := hz.mono hb4
  replace hB := below2 hB hb4
  clear hb4
  have p4 := g0.lt
  refine (variable_any 1 W4 (by decide)).mono ?_
  rintro e w5 ⟨t, rfl, lt, ht, hb5⟩
  replace g0 := g0.mono hb5
  replace gR := gR.mono hb5
  replace hx := hx.mono hb5
  replace hy := hy.mono hb5
  replace hz := hz.mono hb5
  replace hB := below2 hB hb5
  clear hb5
  have p5 := g0.lt
  have hK := Kp.refl w.heap.size w5
  have k0 := g0.cell (j := 0) (v := .int .u64 0) rfl
  have k1 := g0.cell (j := 1) (v := .int .i64 0) rfl
  have k2 := g0.cell (j := 2) (v := .int .i64 0) rfl
  have k3 := g0.cell (j := 3) (v := .slice none 0 0) rfl
  have k4 := g0.cell (j := 4) (v := .int .i64 0) rfl
  have k5 := g0.cell (j := 5) (v := .slice none 0 0) rfl
  have f := g0.free
  go_wp2
  have g7 := (((((g0.set 0 (.int .u64 97)).set 1 (.int .i64 1)).set 2 (.int .i64 3)).set 3 (.slice (some ⟨w3.heap.size, 0, none⟩) 1 1)).set 4 (.int .i64 0)).set 5 (.slice (some ⟨w5.heap.size, 0, none⟩) 1 1)
  have hK7 := (((((hK.set 0 (.int .u64 97)).set 1 (.int .i64 1)).set 2 (.int .i64 3)).set 3 (.slice (some ⟨w3.heap.size, 0, none⟩) 1 1)).set 4 (.int .i64 0)).set 5 (.slice (some ⟨w5.heap.size, 0, none⟩) 1 1)
  have hB7 : Below w.heap.size w ((((((w5.setCell ⟨w.heap.size, 0, none⟩ (.int .u64 97)).setCell ⟨w.heap.size, 1, none⟩ (.int .i64 1)).setCell ⟨w.heap.size, 2, none⟩ (.int .i64 3)).setCell ⟨w.heap.size, 3, none⟩ (.slice (some ⟨w3.heap.size, 0, none⟩) 1 1)).setCell ⟨w.heap.size, 4, none⟩ (.int .i64 0)).setCell ⟨w.heap.size, 5, none⟩ (.slice (some ⟨w5.heap.size, 0, none⟩) 1 1)) := by
    repeat (refine Below.setCell ?_ (by simp) _)
    exact hB
  have hs7 : ((((((w5.setCell ⟨w.heap.size, 0, none⟩ (.int .u64 97)).setCell ⟨w.heap.size, 1, none⟩ (.int .i64 1)).setCell ⟨w.heap.size, 2, none⟩ (.int .i64 3)).setCell ⟨w.heap.size, 3, none⟩ (.slice (some ⟨w3.heap.size, 0, none⟩) 1 1)).setCell ⟨w.heap.size, 4, none⟩ (.int .i64 0)).setCell ⟨w.heap.size, 5, none⟩ (.slice (some ⟨w5.heap.size, 0, none⟩) 1 1)).heap.size = w5.heap.size := by simp
  clear k0 k1 k2 k3 k4 k5 f hK hB g0
  generalize ((((((w5.setCell ⟨w.heap.size, 0, none⟩ (.int .u64 97)).setCell ⟨w.heap.size, 1, none⟩ (.int .i64 1)).setCell ⟨w.heap.size, 2, none⟩ (.int .i64 3)).setCell ⟨w.heap.size, 3, none⟩ (.slice (some ⟨w3.heap.size, 0, none⟩) 1 1)).setCell ⟨w.heap.size, 4, none⟩ (.int .i64 0)).setCell ⟨w.heap.size, 5, none⟩ (.slice (some ⟨w5.heap.size, 0, none⟩) 1 1)) = W7 at *
  have hb8 : Below W7.heap.size W7 (W7.alloc (.cells #[.int .i64 2, .slice (some ⟨t, 0, none⟩) 1 1, .slice none 0 0, .int .i64 0] 42)) := (Below.refl _ _).alloc (Nat.le_refl _) _
  have gH : Blk (W7.alloc (.cells #[.int .i64 2, .slice (some ⟨t, 0, none⟩) 1 1, .slice none 0 0, .int .i64 0] 42)) w5.heap.size #[.int .i64 2, .slice (some ⟨t, 0, none⟩) 1 1, .slice none 0 0, .int .i64 0] 42 := Blk.newAt hs7.symm
  have g8 := g7.mono hb8
  have hB8 := below2 hB7 hb8
  have hRr : RowsP (W7.alloc (.cells #[.int .i64 2, .slice (some ⟨t, 0, none⟩) 1 1, .slice none 0 0, .int .i64 0] 42)) (some ⟨w3.heap.size, 0, none⟩) 1 (exR (some ⟨x, 0, none⟩) (some ⟨y, 0, none⟩) (some ⟨z, 0, none⟩)) := RowsP.one (x := ⟨some ⟨x, 0, none⟩, 1, [(1, 1)]⟩) (y := ⟨some ⟨y, 0, none⟩, 1, [(2, 1)]⟩) (z := ⟨some ⟨z, 0, none⟩, 1, [(0, 1)]⟩) ((hK7.blk gR (by omega)).mono hb8) ((hK7.lc hx (by omega)).mono hb8) ((hK7.lc hy (by omega)).mono hb8) ((hK7.lc hz (by omega)).mono hb8)
  have hHh : HintsP (W7.alloc (.cells #[.int .i64 2, .slice (some ⟨t, 0, none⟩) 1 1, .slice none 0 0, .int .i64 0] 42)) (some ⟨w5.heap.size, 0, none⟩) 1 (exH (some ⟨t, 0, none⟩)) := HintsP.one (k := 2) (x := ⟨some ⟨t, 0, none⟩, 1, [(1, 1)]⟩) (y := ⟨none, 0, []⟩) (bit := 0) gH ((hK7.lc ht (by omega)).mono hb8) (LcOk.nil _) (by decide) (by decide)
  clear hK7 g7 hB7 hs7 hb8 gH gR hx hy hz ht
  generalize W7.alloc (.cells #[.int .i64 2, .slice (some ⟨t, 0, none⟩) 1 1, .slice none 0 0, .int .i64 0] 42) = W8 at *
  have y0 := g8.cell (j := 0) (v := .int .u64 97) rfl
  have y1 := g8.cell (j := 1) (v := .int .i64 1) rfl
  have y2 := g8.cell (j := 2) (v := .int .i64 3) rfl
  have y3 := g8.cell (j := 3) (v := .slice (some ⟨w3.heap.size, 0, none⟩) 1 1) rfl
  have y4 := g8.cell (j := 4) (v := .int .i64 0) rfl
  have y5 := g8.cell (j := 5) (v := .slice (some ⟨w5.heap.size, 0, none⟩) 1 1) rfl
  exact bodyPost_ret (v := .agg #[.int .u64 97, .int .i64 1, .int .i64 3, .slice (some ⟨w3.heap.size, 0, none⟩) 1 1, .int .i64 0, .slice (some ⟨w5.heap.size, 0, none⟩) 1 1]) (by simp [results, Try.results35, go_sem, y0, y1, y2, y3, y4, y5]) rfl
    ⟨some ⟨x, 0, none⟩, some ⟨y, 0, none⟩, some ⟨z, 0, none⟩, some ⟨t, 0, none⟩, some ⟨w3.heap.size, 0, none⟩, some ⟨w5.heap.size, 0, none⟩, rfl, hRr, hHh, hB8⟩
end Go.Proofs.Ytlflkddgdbdebaa
