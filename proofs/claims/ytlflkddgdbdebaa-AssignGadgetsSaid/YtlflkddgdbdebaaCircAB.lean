/- Circuits: the laws' own functions: variable, example, own, short, awake. -/
import Derived.Test.YtlflkddgdbdebaaCircN
import Derived.Test.YtlflkddgdbdebaaCircS
namespace Go.Proofs.Ytlflkddgdbdebaa
open Go.RowKit

/-- A slice of terms is returned. -/
def RetLin (w : World) (L : List (Int × Int)) (e : Ending) (w' : World) : Prop := ∃ b, e = .returned (.slice (some ⟨b, 0, none⟩) L.length 1) ∧ w.heap.size ≤ b ∧ LcOk w' ⟨some ⟨b, 0, none⟩, 1, L⟩ ∧ Below w.heap.size w w'
/-- All blocks but one stay. -/
structure Kp (c : Nat) (w w' : World) : Prop where
  size : w.heap.size ≤ w'.heap.size
  block : ∀ k, k < w.heap.size → k ≠ c → w'.heap[k]? = w.heap[k]?
theorem Kp.refl (c : Nat) (w : World) : Kp c w w := ⟨Nat.le_refl _, fun _ _ _ => rfl⟩
theorem Kp.set {c : Nat} {w w' : World} (h : Kp c w w') (j : Nat) (v : Value) : Kp c w (w'.setCell ⟨c, j, none⟩ v) :=
  ⟨by
    show _ ≤ (w'.heap.modify c _).size
    simpa using h.size, fun k hk hc => by
    show (w'.heap.modify c _)[k]? = _
    rw [Array.getElem?_modify, if_neg (fun e => hc e.symm)]
    exact h.block k hk hc⟩
theorem Kp.blk {c b : Nat} {w w' : World} {cs : Array Value} {T : TypeId} (h : Kp c w w') (g : Blk w b cs T) (hb : b ≠ c) : Blk w' b cs T := by
  have := h.block b g.lt hb
  unfold Blk at *
  rw [this]; exact g
theorem Kp.lc {c b off cap : Nat} {w w' : World} {L : List (Int × Int)} (h : Kp c w w') (g : LcOk w ⟨some ⟨b, off, none⟩, cap, L⟩) (hb : b ≠ c) : LcOk w' ⟨some ⟨b, off, none⟩, cap, L⟩ :=
  ⟨fun h0 => by
    obtain ⟨b2, off2, e, hl, hc⟩ := g.sl h0
    cases e
    refine ⟨b, off, rfl, Nat.lt_of_lt_of_le hl h.size, fun i hi => ?_⟩
    have e1 := h.block b hl hb
    exact ⟨by rw [World.cell?_of_block (w := w) e1]; exact (hc i hi).1, by rw [World.cell?_of_block (w := w) e1]; exact (hc i hi).2⟩, g.wl, g.le, g.mx⟩

theorem LinS.one {w : World} {b : Nat} {v c : Int} (g : Blk w b #[.int .i64 v, .int .u64 c] 53) : LinS w (some ⟨b, 0, none⟩) [(v, c)] := fun _ =>
  ⟨b, 0, rfl, g.lt, fun i hi => by
    have : i = 0 := by simpa using hi
    subst this
    exact ⟨g.cell (j := 0) rfl, g.cell (j := 1) rfl⟩⟩

set_option maxHeartbeats 1600000 in
theorem variable_any (v : Int) (w : World) (hv : (Lit.int .i64 v).wf = true) : Calls Try.prog 23 #[.int .i64 v] w (RetLin w [(v, 1)]) := by
  have hr : ∀ w', Blk w' w.heap.size #[.int .i64 v, .int .u64 1] 53 → Below w.heap.size w w' → RetLin w [(v, 1)] (.returned (.slice (some ⟨w.heap.size, 0, none⟩) 1 1)) w' := fun w' g hb =>
    ⟨_, rfl, Nat.le_refl _, ⟨LinS.one g, fun t ht => by
      rw [List.mem_singleton] at ht
      subst ht
      exact ⟨hv, show (Lit.int .u64 1).wf = true by decide⟩, by simp, by simp [maxLen]⟩, hb⟩
  clear hv
  go_enter Try.func23, Try.ntmps23
  go_wp2
  go_ret
  exact hr _ (Blk.newAt rfl) ((Below.refl _ _).alloc (Nat.le_refl _) _)

/-- The example's rows and hints. -/
def exR (x y z : Option Addr) : List Rw := [⟨⟨x, 1, [(1, 1)]⟩, ⟨y, 1, [(2, 1)]⟩, ⟨z, 1, [(0, 1)]⟩⟩]
def exH (t : Option Addr) : List Hn := [⟨2, ⟨t, 1, [(1, 1)]⟩, ⟨none, 0, []⟩, 0⟩]
def RetEx (w : World) (e : Ending) (w' : World) : Prop := ∃ x y z t ra ha, e = .returned (.agg #[.int .u64 97, .int .i64 1, .int .i64 3, .slice ra 1 1, .int .i64 0, .slice ha 1 1]) ∧ RowsP w' ra 1 (exR x y z) ∧ HintsP w' ha 1 (exH t) ∧ Below w.heap.size w w'

theorem ex_cir (x y z t : Option Addr) : cirOk 97 1 3 (exR x y z) 0 (exH t) = true := by kernel_rfl
theorem ex_sat (x y z t : Option Addr) : satL 97 1 3 (exR x y z) 0 (exH t) [5] [] = [1, 5, 39] ∧ satE 97 1 3 (exR x y z) 0 (exH t) [5] [] = 0 := ⟨by kernel_rfl, by kernel_rfl⟩
theorem ex_run (x y z t : Option Addr) : runL 97 1 3 (exR x y z) 0 (exH t) [0] [] = [1, 0, 0] ∧ runE 97 1 3 (exR x y z) 0 (exH t) [0] [] = 0 := ⟨by kernel_rfl, by kernel_rfl⟩
theorem ex_uns (x y z t : Option Addr) : satE 97 1 3 (exR x y z) 0 (exH t) [0] [] = 9 := by kernel_rfl

theorem RowsP.one {w : World} {b : Nat} {x y z : Lc} (g : Blk w b #[.slice x.ad x.l.length x.cap, .slice y.ad y.l.length y.cap, .slice z.ad z.l.length z.cap] 51) (hx : LcOk w x) (hy : LcOk w y) (hz : LcOk w z) : RowsP w (some ⟨b, 0, none⟩) 1 [⟨x, y, z⟩] :=
  ⟨fun _ => ⟨b, 0, rfl, g.lt, fun i hi => by
    have : i = 0 := by simpa using hi
    subst this
    exact ⟨g.cell (j := 0) rfl, g.cell (j := 1) rfl, g.cell (j := 2) rfl⟩⟩, fun r hr => by
    rw [List.mem_singleton] at hr
    subst hr
    exact ⟨hx, hy, hz⟩, by simp, by simp [maxLen], fun h => by cases h⟩
theorem HintsP.one {w : World} {b : Nat} {k : Int} {x y : Lc} {bit : Int} (g : Blk w b #[.int .i64 k, .slice x.ad x.l.length x.cap, .slice y.ad y.l.length y.cap, .int .i64 bit] 42) (hx : LcOk w x) (hy : LcOk w y) (hk : (Lit.int .i64 k).wf = true) (hb : (Lit.int .i64 bit).wf = true) : HintsP w (some ⟨b, 0, none⟩) 1 [⟨k, x, y, bit⟩] :=
  ⟨fun _ => ⟨b, 0, rfl, g.lt, fun i hi => by
    have : i = 0 := by simpa using hi
    subst this
    exact ⟨g.cell (j := 0) rfl, g.cell (j := 1) rfl, g.cell (j := 2) rfl, g.cell (j := 3) rfl⟩⟩, fun r hr => by
    rw [List.mem_singleton] at hr
    subst hr
    exact ⟨hx, hy, hk, hb⟩, by simp, by simp [maxLen], fun h => by cases h⟩
theorem LcOk.nil (w : World) : LcOk w ⟨none, 0, []⟩ := ⟨fun h => absurd h (by simp), fun t ht => (by cases ht), by simp, by simp⟩

set_option maxHeartbeats 1600000 in
theorem example_any (w : World) : Calls Try.prog 35 #[] w (RetEx w) := by
  go_enter Try.func35, Try.ntmps35
  go_wp2_with fail
  refine name_calls fun W hN => ?_
  have g0 := Blk.newAt (w := w) (b := w.heap.size) (cs := #[.int .u64 0, .int .i64 0, .int .i64 0, .slice none 0 0, .int .i64 0, .slice none 0 0]) (T := 28) rfl
  rw [← hN] at g0
  have hB : Below w.heap.size w W := by rw [hN]; exact (Below.refl _ _).alloc (Nat.le_refl _) _
  clear hN
  have p0 := g0.lt
  refine (variable_any 1 W (by decide)).mono ?_
  rintro e w1 ⟨x, rfl, lx, hx, hb1⟩
  replace g0 := g0.mono hb1
  replace hB := below2 hB hb1
  clear hb1
  go_wp2_with fail
  have p1 := g0.lt
  refine (variable_any 2 w1 (by decide)).mono ?_
  rintro e w2 ⟨y, rfl, ly, hy, hb2⟩
  replace g0 := g0.mono hb2
  replace hx := hx.mono hb2
  replace hB := below2 hB hb2
  clear hb2
  go_wp2_with fail
  have p2 := g0.lt
  refine (variable_any 0 w2 (by decide)).mono ?_
  rintro e w3 ⟨z, rfl, lz, hz, hb3⟩
  replace g0 := g0.mono hb3
  replace hx := hx.mono hb3
  replace hy := hy.mono hb3
  replace hB := below2 hB hb3
  clear hb3
  go_wp2_with fail
  refine name_calls fun W4 hN => ?_
  have hb4 : Below w3.heap.size w3 W4 := by rw [hN]; exact (Below.refl _ _).alloc (Nat.le_refl _) _
  have gR : Blk W4 w3.heap.size #[.slice (some ⟨x, 0, none⟩) 1 1, .slice (some ⟨y, 0, none⟩) 1 1, .slice (some ⟨z, 0, none⟩) 1 1] 51 := by rw [hN]; exact Blk.newAt rfl
  clear hN
  have p3 := g0.lt
  replace g0 := g0.mono hb4
  replace hx := hx.mono hb4
  replace hy := hy.mono hb4
  replace hz := hz.mono hb4
  replace hB := below2 hB hb4
  clear hb4
  have p4 := g0.lt
  refine (variable_any 1 W4 (by decide)).mono ?_
  rintro e w5 ⟨t, rfl, lt, ht, hb5⟩
  replace g0 := g0.mono hb5
  replace gR := gR.mono hb5
  replace hx := hx.mono hb5
  replace hy := hy.mono hb5
  replace hz := hz.mono hb5
  replace hB := below2 hB hb5
  clear hb5
  have p5 := g0.lt
  have hK := Kp.refl w.heap.size w5
  have k0 := g0.cell (j := 0) (v := .int .u64 0) rfl
  have k1 := g0.cell (j := 1) (v := .int .i64 0) rfl
  have k2 := g0.cell (j := 2) (v := .int .i64 0) rfl
  have k3 := g0.cell (j := 3) (v := .slice none 0 0) rfl
  have k4 := g0.cell (j := 4) (v := .int .i64 0) rfl
  have k5 := g0.cell (j := 5) (v := .slice none 0 0) rfl
  have f := g0.free
  go_wp2
  have g7 := (((((g0.set 0 (.int .u64 97)).set 1 (.int .i64 1)).set 2 (.int .i64 3)).set 3 (.slice (some ⟨w3.heap.size, 0, none⟩) 1 1)).set 4 (.int .i64 0)).set 5 (.slice (some ⟨w5.heap.size, 0, none⟩) 1 1)
  have hK7 := (((((hK.set 0 (.int .u64 97)).set 1 (.int .i64 1)).set 2 (.int .i64 3)).set 3 (.slice (some ⟨w3.heap.size, 0, none⟩) 1 1)).set 4 (.int .i64 0)).set 5 (.slice (some ⟨w5.heap.size, 0, none⟩) 1 1)
  have hB7 : Below w.heap.size w ((((((w5.setCell ⟨w.heap.size, 0, none⟩ (.int .u64 97)).setCell ⟨w.heap.size, 1, none⟩ (.int .i64 1)).setCell ⟨w.heap.size, 2, none⟩ (.int .i64 3)).setCell ⟨w.heap.size, 3, none⟩ (.slice (some ⟨w3.heap.size, 0, none⟩) 1 1)).setCell ⟨w.heap.size, 4, none⟩ (.int .i64 0)).setCell ⟨w.heap.size, 5, none⟩ (.slice (some ⟨w5.heap.size, 0, none⟩) 1 1)) := by
    repeat (refine Below.setCell ?_ (by simp) _)
    exact hB
  have hs7 : ((((((w5.setCell ⟨w.heap.size, 0, none⟩ (.int .u64 97)).setCell ⟨w.heap.size, 1, none⟩ (.int .i64 1)).setCell ⟨w.heap.size, 2, none⟩ (.int .i64 3)).setCell ⟨w.heap.size, 3, none⟩ (.slice (some ⟨w3.heap.size, 0, none⟩) 1 1)).setCell ⟨w.heap.size, 4, none⟩ (.int .i64 0)).setCell ⟨w.heap.size, 5, none⟩ (.slice (some ⟨w5.heap.size, 0, none⟩) 1 1)).heap.size = w5.heap.size := by simp
  clear k0 k1 k2 k3 k4 k5 f hK hB g0
  generalize ((((((w5.setCell ⟨w.heap.size, 0, none⟩ (.int .u64 97)).setCell ⟨w.heap.size, 1, none⟩ (.int .i64 1)).setCell ⟨w.heap.size, 2, none⟩ (.int .i64 3)).setCell ⟨w.heap.size, 3, none⟩ (.slice (some ⟨w3.heap.size, 0, none⟩) 1 1)).setCell ⟨w.heap.size, 4, none⟩ (.int .i64 0)).setCell ⟨w.heap.size, 5, none⟩ (.slice (some ⟨w5.heap.size, 0, none⟩) 1 1)) = W7 at *
  have hb8 : Below W7.heap.size W7 (W7.alloc (.cells #[.int .i64 2, .slice (some ⟨t, 0, none⟩) 1 1, .slice none 0 0, .int .i64 0] 42)) := (Below.refl _ _).alloc (Nat.le_refl _) _
  have gH : Blk (W7.alloc (.cells #[.int .i64 2, .slice (some ⟨t, 0, none⟩) 1 1, .slice none 0 0, .int .i64 0] 42)) w5.heap.size #[.int .i64 2, .slice (some ⟨t, 0, none⟩) 1 1, .slice none 0 0, .int .i64 0] 42 := Blk.newAt hs7.symm
  have g8 := g7.mono hb8
  have hB8 := below2 hB7 hb8
  have hRr : RowsP (W7.alloc (.cells #[.int .i64 2, .slice (some ⟨t, 0, none⟩) 1 1, .slice none 0 0, .int .i64 0] 42)) (some ⟨w3.heap.size, 0, none⟩) 1 (exR (some ⟨x, 0, none⟩) (some ⟨y, 0, none⟩) (some ⟨z, 0, none⟩)) := RowsP.one (x := ⟨some ⟨x, 0, none⟩, 1, [(1, 1)]⟩) (y := ⟨some ⟨y, 0, none⟩, 1, [(2, 1)]⟩) (z := ⟨some ⟨z, 0, none⟩, 1, [(0, 1)]⟩) ((hK7.blk gR (by omega)).mono hb8) ((hK7.lc hx (by omega)).mono hb8) ((hK7.lc hy (by omega)).mono hb8) ((hK7.lc hz (by omega)).mono hb8)
  have hHh : HintsP (W7.alloc (.cells #[.int .i64 2, .slice (some ⟨t, 0, none⟩) 1 1, .slice none 0 0, .int .i64 0] 42)) (some ⟨w5.heap.size, 0, none⟩) 1 (exH (some ⟨t, 0, none⟩)) := HintsP.one (k := 2) (x := ⟨some ⟨t, 0, none⟩, 1, [(1, 1)]⟩) (y := ⟨none, 0, []⟩) (bit := 0) gH ((hK7.lc ht (by omega)).mono hb8) (LcOk.nil _) (by decide) (by decide)
  clear hK7 g7 hB7 hs7 hb8 gH gR hx hy hz ht
  generalize W7.alloc (.cells #[.int .i64 2, .slice (some ⟨t, 0, none⟩) 1 1, .slice none 0 0, .int .i64 0] 42) = W8 at *
  have y0 := g8.cell (j := 0) (v := .int .u64 97) rfl
  have y1 := g8.cell (j := 1) (v := .int .i64 1) rfl
  have y2 := g8.cell (j := 2) (v := .int .i64 3) rfl
  have y3 := g8.cell (j := 3) (v := .slice (some ⟨w3.heap.size, 0, none⟩) 1 1) rfl
  have y4 := g8.cell (j := 4) (v := .int .i64 0) rfl
  have y5 := g8.cell (j := 5) (v := .slice (some ⟨w5.heap.size, 0, none⟩) 1 1) rfl
  exact bodyPost_ret (v := .agg #[.int .u64 97, .int .i64 1, .int .i64 3, .slice (some ⟨w3.heap.size, 0, none⟩) 1 1, .int .i64 0, .slice (some ⟨w5.heap.size, 0, none⟩) 1 1]) (by simp [results, Try.results35, go_sem, y0, y1, y2, y3, y4, y5]) rfl
    ⟨some ⟨x, 0, none⟩, some ⟨y, 0, none⟩, some ⟨z, 0, none⟩, some ⟨t, 0, none⟩, some ⟨w3.heap.size, 0, none⟩, some ⟨w5.heap.size, 0, none⟩, rfl, hRr, hHh, hB8⟩
end Go.Proofs.Ytlflkddgdbdebaa

/- Circuits: own, short, awake. -/
namespace Go.Proofs.Ytlflkddgdbdebaa
open Go.RowKit

set_option maxHeartbeats 1600000 in
theorem own22_any (a : Option Addr) (c : Nat) (l : List Int) (w : World) (hl : Sl w .u64 a l) (hlen : l.length < 1099511627776) :
    Calls Try.prog 15 #[.slice a l.length c] w (RetSl w 22 .u64 l) := by
  go_enter Try.func15, Try.ntmps15
  have own1 : Own (w.alloc (.cells #[] 22)) w.heap.size 22 .u64 (.slice (some ⟨w.heap.size, 0, none⟩) 0 0) [] := Own.empty (Nat.le_refl _)
  have hB1 : Below w.heap.size w (w.alloc (.cells #[] 22)) := (Below.refl _ _).alloc (Nat.le_refl _) _
  go_wp2_with (at_builtin; refine wpList_app _ rfl _ _ 32 rfl w.heap.size 22 .u64 8 Try.underlying32 Try.infoU64 (by decide) _ [] l c _ rfl rfl own1 (hl.alloc _) (by simp; omega) hB1.size ?_; intro v4 w4 own4 hg4; refine Hold.mk ?_)
  refine Hold.go ?_
  have hB := hg4.below hB1 own1 (Nat.le_refl _) hB1.size
  rw [List.nil_append] at own4
  clear own1 hB1 hg4
  go_wp2
  go_ret
  exact ⟨_, rfl, own4, hB⟩

set_option maxHeartbeats 1600000 in
theorem short0_any (p pub vars : Int) (ra : Option Addr) (R : List Rw) (rc : Nat) (sec : Int) (ha : Option Addr) (H : List Hn) (hc : Nat) (w : World) (hR : RowsP w ra rc R) (hH : HintsP w ha hc H) :
    Calls Try.prog 11 #[.agg #[.int .u64 p, .int .i64 pub, .int .i64 vars, .slice ra R.length rc, .int .i64 sec, .slice ha H.length hc], .slice none 0 0] w fun e w' => e = .returned (.bool (smC R H)) ∧ Below w.heap.size w w' := by
  go_enter Try.func11, Try.ntmps11
  go_wp2_with fail
  go_loopw [9] (fun t9 wr => t9 = .int .i64 0 ∧ Below w.heap.size w wr ∧ Blk wr w.heap.size #[.int .u64 p, .int .i64 pub, .int .i64 vars, .slice ra R.length rc, .int .i64 sec, .slice ha H.length hc] 28) (fun t9 _ => 0)
  case atStart => exact ⟨rfl, (Below.refl _ _).alloc (Nat.le_refl _) _, Blk.newAt rfl⟩
  case round =>
    obtain ⟨rfl, hb, gr⟩ := hrel
    have k0 := gr.cell (j := 0) (v := .int .u64 p) rfl; have k1 := gr.cell (j := 1) (v := .int .i64 pub) rfl; have k2 := gr.cell (j := 2) (v := .int .i64 vars) rfl; have k3 := gr.cell (j := 3) (v := .slice ra R.length rc) rfl; have k4 := gr.cell (j := 4) (v := .int .i64 sec) rfl; have k5 := gr.cell (j := 5) (v := .slice ha H.length hc) rfl
    go_wp2_with fail
    refine (cSmall_any p pub vars ra R rc sec ha H hc wr (hR.mono hb) (hH.mono hb)).mono ?_
    rintro e w3 ⟨rfl, hb3⟩
    go_wp2
    go_ret
    exact ⟨rfl, below2 hb hb3⟩

/-- What short says of two lists and a circuit. -/
def shortC (R : List Rw) (H : List Hn) (u s : List Int) : Bool := decide (u.length ≤ 60) && decide (s.length ≤ 60) && smC R H

set_option maxHeartbeats 1600000 in
theorem short2_any (p pub vars : Int) (ra : Option Addr) (R : List Rw) (rc : Nat) (sec : Int) (ha : Option Addr) (H : List Hn) (hc : Nat) (b : Nat) (ua : Option Addr) (uc : Nat) (u : List Int) (sa : Option Addr) (sc : Nat) (s : List Int) (w : World) (hR : RowsP w ra rc R) (hH : HintsP w ha hc H)
    (g : Blk w b #[.slice ua u.length uc, .slice sa s.length sc] 32) (hun : u.length ≤ 9223372036854775807) (hsn : s.length ≤ 9223372036854775807) :
    Calls Try.prog 11 #[.agg #[.int .u64 p, .int .i64 pub, .int .i64 vars, .slice ra R.length rc, .int .i64 sec, .slice ha H.length hc], .slice (some ⟨b, 0, none⟩) 2 2] w fun e w' => e = .returned (.bool (shortC R H u s)) ∧ Below w.heap.size w w' := by
  have hS : shortC R H u s = (decide (u.length ≤ 60) && decide (s.length ≤ 60) && smC R H) := rfl
  generalize shortC R H u s = S at *
  replace hS := hide hS
  replace hun := hide hun
  replace hsn := hide hsn
  go_enter Try.func11, Try.ntmps11
  go_wp2_with fail
  go_loopw [9] (fun t9 wr => ∃ k : Nat, (k = 0 ∨ (k = 1 ∧ u.length ≤ 60) ∨ (k = 2 ∧ u.length ≤ 60 ∧ s.length ≤ 60)) ∧ t9 = .int .i64 k ∧ Below w.heap.size w wr ∧ Blk wr w.heap.size #[.int .u64 p, .int .i64 pub, .int .i64 vars, .slice ra R.length rc, .int .i64 sec, .slice ha H.length hc] 28) (fun t9 _ => 2 - (intOf t9).toNat)
  case atStart => exact ⟨0, .inl rfl, rfl, (Below.refl _ _).alloc (Nat.le_refl _) _, Blk.newAt rfl⟩
  case round =>
    obtain ⟨k, hk, rfl, hb, gr⟩ := hrel
    have gl := g.mono hb
    rcases hk with rfl | ⟨rfl, h1⟩ | ⟨rfl, h1, h2⟩
    · have d0 := gl.cell (j := 0) (v := .slice ua u.length uc) rfl
      by_cases h1 : u.length ≤ 60
      · have h1' : (u.length : Int) ≤ 60 := by omega
        go_wp2_with fail
        go_roundw
        case rel => exact ⟨1, .inr (.inl ⟨rfl, h1⟩), by first | rfl | go_num, hb, gr⟩
        case measure => simp [intOf]
      · have h1' : (60 : Int) < u.length := by omega
        have hF := hide (show S = false by rw [hS.out, decide_eq_false h1]; rfl)
        replace h1 := hide h1
        clear hS
        go_wp2
        go_ret
        exact ⟨ret_bool' hF.out.symm, hb⟩
    · have d0 := gl.cell (j := 1) (v := .slice sa s.length sc) rfl
      by_cases h2 : s.length ≤ 60
      · have h2' : (s.length : Int) ≤ 60 := by omega
        go_wp2_with fail
        go_roundw
        case rel => exact ⟨2, .inr (.inr ⟨rfl, h1, h2⟩), by first | rfl | go_num, hb, gr⟩
        case measure => simp [intOf]
      · have h2' : (60 : Int) < s.length := by omega
        have hF := hide (show S = false by rw [hS.out, decide_eq_false h2]; simp)
        replace h2 := hide h2
        clear hS
        go_wp2
        go_ret
        exact ⟨ret_bool' hF.out.symm, hb⟩
    · have hF := hide (show S = smC R H by rw [hS.out, decide_eq_true h1, decide_eq_true h2]; rfl)
      clear hS
      have k0 := gr.cell (j := 0) (v := .int .u64 p) rfl; have k1 := gr.cell (j := 1) (v := .int .i64 pub) rfl; have k2 := gr.cell (j := 2) (v := .int .i64 vars) rfl; have k3 := gr.cell (j := 3) (v := .slice ra R.length rc) rfl; have k4 := gr.cell (j := 4) (v := .int .i64 sec) rfl; have k5 := gr.cell (j := 5) (v := .slice ha H.length hc) rfl
      go_wp2_with fail
      refine (cSmall_any p pub vars ra R rc sec ha H hc wr (hR.mono hb) (hH.mono hb)).mono ?_
      rintro e w3 ⟨rfl, hb3⟩
      go_wp2
      go_ret
      exact ⟨ret_bool' hF.out.symm, below2 hb hb3⟩

theorem Own.sl_of {w : World} {base g n cap : Nat} {E : TypeId} {k : IntKind} {xs : List Int} (h : Own w base E k (.slice (some ⟨g, 0, none⟩) n cap) xs) : Sl w k (some ⟨g, 0, none⟩) xs := by
  obtain ⟨a, c, e, hs, _, _⟩ := h.sl
  cases e
  exact hs

set_option maxRecDepth 10000 in
set_option maxHeartbeats 4000000 in
theorem awake22 (w : World) : Calls Try.prog 10 #[] w fun e w' => e = .returned (.bool true) ∧ Below w.heap.size w w' := by
  go_enter Try.func10, Try.ntmps10
  go_wp2_with fail
  refine (example_any w).mono ?_
  rintro e w1 ⟨x, y, z, t, ra, ha, rfl, hR, hH, hB⟩
  have eC := ex_cir x y z t
  obtain ⟨eS1, eS2⟩ := ex_sat x y z t
  obtain ⟨eR1, eR2⟩ := ex_run x y z t
  have eU := ex_uns x y z t
  have cS := fun (ua : Option Addr) (uc : Nat) (u : List Int) W h1 h2 h3 h4 => aSat_any 97 1 3 ra (exR x y z) 1 0 ha (exH t) 1 ua uc u none 0 [] W h1 h2 (by decide) h3 (Sl.nil _ _ _) h4 (fun x hx => by cases hx)
  have cR := fun (ua : Option Addr) (uc : Nat) (u : List Int) W h1 h2 h3 h4 => aRun_any 97 1 3 ra (exR x y z) 1 0 ha (exH t) 1 ua uc u none 0 [] W h1 h2 (by decide) h3 (Sl.nil _ _ _) h4 (fun x hx => by cases hx)
  have cC := fun W h1 h2 => aCValid_any 97 1 3 ra (exR x y z) 1 0 ha (exH t) 1 W h1 h2 (by decide)
  rw [eC] at cC
  have l1 : (exR x y z).length = 1 := rfl
  have l2 : (exH t).length = 1 := rfl
  simp only [l1, l2, List.length_nil] at cS cR cC
  replace cS := hide cS
  replace cR := hide cR
  replace cC := hide cC
  clear l1 l2 eC
  replace eS1 := hide eS1
  replace eS2 := hide eS2
  replace eR1 := hide eR1
  replace eR2 := hide eR2
  replace eU := hide eU
  go_wp2_with fail
  -- AWAKE
  refine name_calls fun W hN => ?_
  have gX : Blk W w1.heap.size #[.int .u64 97, .int .i64 1, .int .i64 3, .slice ra 1 1, .int .i64 0, .slice ha 1 1] 28 := by rw [hN]; exact (Blk.newAt rfl).alloc _
  have s1 : Sl W .u64 (some ⟨w1.heap.size + 1, 0, none⟩) [5] := by
    rw [hN]
    have := Sl.one (w1.alloc (.cells #[.int .u64 97, .int .i64 1, .int .i64 3, .slice ra 1 1, .int .i64 0, .slice ha 1 1] 28)) .u64 5 22
    simpa using this
  have hBW : Below w1.heap.size w1 W := by rw [hN]; exact ((Below.refl _ _).alloc (Nat.le_refl _) _).alloc (by simp) _
  clear hN
  have c1 := cS.out (some ⟨w1.heap.size + 1, 0, none⟩) 1 [5] W (hR.mono hBW) (hH.mono hBW) s1 (fun q hq => by rw [List.mem_singleton] at hq; subst hq; decide)
  rw [eS1.out, eS2.out] at c1
  refine c1.mono ?_
  rintro e w2 ⟨v2, rfl, o2, hb2⟩
  clear c1 s1 eS1 eS2
  replace o2 := o2.low (b := 0) (Nat.zero_le _)
  replace gX := gX.mono hb2
  replace hBW := below2 hBW hb2
  clear hb2
  have k0 := gX.cell (j := 0) (v := .int .u64 97) rfl; have k1 := gX.cell (j := 1) (v := .int .i64 1) rfl; have k2 := gX.cell (j := 2) (v := .int .i64 3) rfl; have k3 := gX.cell (j := 3) (v := .slice ra 1 1) rfl; have k4 := gX.cell (j := 4) (v := .int .i64 0) rfl; have k5 := gX.cell (j := 5) (v := .slice ha 1 1) rfl
  go_wp2_with fail
  refine name_calls fun W3 hN => ?_
  have hb3 : Below w2.heap.size w2 W3 := by rw [hN]; exact (Below.refl _ _).alloc (Nat.le_refl _) _
  have s2 : Sl W3 .u64 (some ⟨w2.heap.size, 0, none⟩) [0] := by rw [hN]; exact Sl.one _ _ _ _
  clear hN k0 k1 k2 k3 k4 k5
  replace o2 := o2.mono hb3
  replace gX := gX.mono hb3
  replace hBW := below2 hBW hb3
  clear hb3
  have c2 := cR.out (some ⟨w2.heap.size, 0, none⟩) 1 [0] W3 (hR.mono hBW) (hH.mono hBW) s2 (fun q hq => by rw [List.mem_singleton] at hq; subst hq; decide)
  rw [eR1.out, eR2.out] at c2
  refine c2.mono ?_
  rintro e w4 ⟨v4, rfl, o4, hb4⟩
  clear c2 s2 eR1 eR2 cR
  replace o4 := o4.low (b := 0) (Nat.zero_le _)
  replace o2 := o2.mono hb4
  replace gX := gX.mono hb4
  replace hBW := below2 hBW hb4
  clear hb4
  have k0 := gX.cell (j := 0) (v := .int .u64 97) rfl; have k1 := gX.cell (j := 1) (v := .int .i64 1) rfl; have k2 := gX.cell (j := 2) (v := .int .i64 3) rfl; have k3 := gX.cell (j := 3) (v := .slice ra 1 1) rfl; have k4 := gX.cell (j := 4) (v := .int .i64 0) rfl; have k5 := gX.cell (j := 5) (v := .slice ha 1 1) rfl
  go_wp2_with fail
  refine name_calls fun W5 hN => ?_
  have hb5 : Below w4.heap.size w4 W5 := by rw [hN]; exact (Below.refl _ _).alloc (Nat.le_refl _) _
  have s3 : Sl W5 .u64 (some ⟨w4.heap.size, 0, none⟩) [0] := by rw [hN]; exact Sl.one _ _ _ _
  clear hN k0 k1 k2 k3 k4 k5
  replace o2 := o2.mono hb5
  replace o4 := o4.mono hb5
  replace gX := gX.mono hb5
  replace hBW := below2 hBW hb5
  clear hb5
  have c3 := cS.out (some ⟨w4.heap.size, 0, none⟩) 1 [0] W5 (hR.mono hBW) (hH.mono hBW) s3 (fun q hq => by rw [List.mem_singleton] at hq; subst hq; decide)
  rw [eU.out] at c3
  refine c3.mono ?_
  rintro e w6 ⟨v6, rfl, _, hb6⟩
  clear c3 s3 eU cS
  replace o2 := o2.mono hb6
  replace o4 := o4.mono hb6
  replace gX := gX.mono hb6
  replace hBW := below2 hBW hb6
  clear hb6
  have k0 := gX.cell (j := 0) (v := .int .u64 97) rfl; have k1 := gX.cell (j := 1) (v := .int .i64 1) rfl; have k2 := gX.cell (j := 2) (v := .int .i64 3) rfl; have k3 := gX.cell (j := 3) (v := .slice ra 1 1) rfl; have k4 := gX.cell (j := 4) (v := .int .i64 0) rfl; have k5 := gX.cell (j := 5) (v := .slice ha 1 1) rfl
  go_wp2_with fail
  refine (cC.out w6 (hR.mono hBW) (hH.mono hBW)).mono ?_
  rintro e w7 ⟨rfl, hb7⟩
  replace o2 := o2.mono hb7
  replace o4 := o4.mono hb7
  replace hBW := below2 hBW hb7
  clear hb7 k0 k1 k2 k3 k4 k5 gX cC hR hH
  obtain ⟨a2, d2, rfl, s2, _, _⟩ := Own.sl o2
  obtain ⟨a4, d4, rfl, s4, _, _⟩ := Own.sl o4
  clear o2 o4
  go_wp2_with fail
  refine name_calls fun W8 hN => ?_
  have hb8 : Below w7.heap.size w7 W8 := by rw [hN]; exact (Below.refl _ _).alloc (Nat.le_refl _) _
  have s8 : Sl W8 .u64 (some ⟨w7.heap.size, 0, none⟩) [1, 5, 39] := by
    rw [hN]
    have g : Blk (w7.alloc (.cells #[.int .u64 1, .int .u64 5, .int .u64 39] 22)) w7.heap.size #[.int .u64 1, .int .u64 5, .int .u64 39] 22 := Blk.newAt rfl
    exact (Own.of_blk (base := 0) (xs := [1, 5, 39]) (k := .u64) (cap := 3) (Nat.zero_le _) g (by simp) (by simp [maxLen]) rfl rfl).sl_of
  clear hN
  have c4 := rSame1_any a2 (some ⟨w7.heap.size, 0, none⟩) d2 3 [1, 5, 39] [1, 5, 39] W8 (s2.mono hb8) s8 (by simp)
  rw [decide_eq_true rfl] at c4
  refine c4.mono ?_
  rintro e w9 ⟨rfl, hb9⟩
  replace hBW := below2 hBW (below2 hb8 hb9)
  replace s4 := (s4.mono hb8).mono hb9
  clear hb8 hb9 c4 s8 s2
  go_wp2_with fail
  refine name_calls fun W10 hN => ?_
  have hb10 : Below w9.heap.size w9 W10 := by rw [hN]; exact (Below.refl _ _).alloc (Nat.le_refl _) _
  have s10 : Sl W10 .u64 (some ⟨w9.heap.size, 0, none⟩) [1, 0, 0] := by
    rw [hN]
    have g : Blk (w9.alloc (.cells #[.int .u64 1, .int .u64 0, .int .u64 0] 22)) w9.heap.size #[.int .u64 1, .int .u64 0, .int .u64 0] 22 := Blk.newAt rfl
    exact (Own.of_blk (base := 0) (xs := [1, 0, 0]) (k := .u64) (cap := 3) (Nat.zero_le _) g (by simp) (by simp [maxLen]) rfl rfl).sl_of
  clear hN
  have c5 := rSame1_any a4 (some ⟨w9.heap.size, 0, none⟩) d4 3 [1, 0, 0] [1, 0, 0] W10 (s4.mono hb10) s10 (by simp)
  rw [decide_eq_true rfl] at c5
  refine c5.mono ?_
  rintro e w11 ⟨rfl, hb11⟩
  replace hBW := below2 hBW (below2 hb10 hb11)
  clear hb10 hb11 c5 s10 s4
  go_wp2
  go_ret
  exact ⟨rfl, below2 hB hBW⟩
end Go.Proofs.Ytlflkddgdbdebaa
