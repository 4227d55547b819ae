/- compiler: products, equality, hashes. -/
import Derived.Test.YtalmgeefkcebdaaGreatDoorQ29
namespace Go.Proofs.YtalmgeefkcebdaaGreatDoor
open Go.RowKit

set_option maxRecDepth 10000 in
set_option maxHeartbeats 8000000 in
theorem carith_any {base q b f : Nat} {w : World} {p rows : Int} {S : St} (n : Int) (x y : Lc) (h : CP base w q b p f rows S) (h0 : 0 ≤ rows) (hs : rows + 1 ≤ 16384) (hv : vld S.p = true) (hS : Bd S n) (hn : n ≤ 20000) (hx : LinT w x) (hy : LinT w y) (lx : x.l.length ≤ 20000) (ly : y.l.length ≤ 20000) (bl : Nat) (g : Blk w bl #[lcV x, lcV y] 95) :
    Calls Tryz.prog 96 #[.pointer (some ⟨q, 0, none⟩), .int .i64 11, .slice (some ⟨bl, 0, none⟩) 2 2] w (RetCB base w q b p f (rows + 1) (gMul S x.l y.l) (nv S)) := by
  have cM := fun W (hC : CP base W q b p f rows S) hx hy => cmul_any n x y hC h0 hs hv hS (by omega) hx hy lx ly
  have c0 := h.blk.cell (j := 0) (v := .int .u64 p) rfl
  have hz := h.lt
  unfold lcV at *
  go_enter Tryz.func96, Tryz.ntmps96
  go_wp2_with fail
  refine Rel.region_any Tryz.mixed fun w4 hb4 => ?_
  have C4 := h.mono hb4
  have k4 := KM.of_below hb4 hz
  have g4 := g.mono hb4
  clear c0 g h
  refine Rel.any_held (fun W => W.cell? ⟨bl, 0, none⟩ = some (.slice x.ad x.l.length x.cap) ∧ W.cell? ⟨bl, 1, none⟩ = some (.slice y.ad y.l.length y.cap)) 8 ⟨g4.cell (j := 0) rfl, g4.cell (j := 1) rfl⟩ fun hH0 => ?_
  refine Rel.tk (v := ?_) 0 ?_ ?_
  rotate_left
  · (intro W hSw; (try dsimp only at hSw); go_simp; try with_reducible rfl)
  try simp only [Act.put, List.setIfInBounds_toArray, List.set_cons_zero, List.set_cons_succ]
  refine Rel.tk (v := ?_) 1 ?_ ?_
  rotate_left
  · (intro W hSw; (try dsimp only at hSw); go_simp; try with_reducible rfl)
  try simp only [Act.put, List.setIfInBounds_toArray, List.set_cons_zero, List.set_cons_succ]
  refine Rel.tk (v := ?_) 2 ?_ ?_
  rotate_left
  · (intro W hSw; (try dsimp only at hSw); go_simp; try with_reducible rfl)
  try simp only [Act.put, List.setIfInBounds_toArray, List.set_cons_zero, List.set_cons_succ]
  refine Rel.tk (v := ?_) 3 ?_ ?_
  rotate_left
  · (intro W hSw; (try dsimp only at hSw); go_simp; try with_reducible rfl)
  try simp only [Act.put, List.setIfInBounds_toArray, List.set_cons_zero, List.set_cons_succ]
  refine Rel.tk (v := ?_) 4 ?_ ?_
  rotate_left
  · (intro W hSw; (try dsimp only at hSw); go_simp; try with_reducible rfl)
  try simp only [Act.put, List.setIfInBounds_toArray, List.set_cons_zero, List.set_cons_succ]
  refine Rel.tk (v := ?_) 5 ?_ ?_
  rotate_left
  · (intro W hSw; (try dsimp only at hSw); go_simp; try with_reducible rfl)
  try simp only [Act.put, List.setIfInBounds_toArray, List.set_cons_zero, List.set_cons_succ]
  refine Rel.tk (v := ?_) 6 ?_ ?_
  rotate_left
  · (intro W hSw; (try dsimp only at hSw); go_simp; try with_reducible rfl)
  try simp only [Act.put, List.setIfInBounds_toArray, List.set_cons_zero, List.set_cons_succ]
  refine Rel.heldNext 7 rfl (by kernel_rfl) fun K hK => ?_
  go_simp
  refine (cM w4 C4 (hx.mono hb4) (hy.mono hb4)).mono ?_
  rintro e w5 ⟨s, rfl, es, hs5, C5, k5⟩
  have g5 := k5.kx.typ _ _ _ g4 (by unfold XCp; decide)
  have kF := k4.trans k5
  refine hK.out _ _ ⟨g5.cell (j := 0) rfl, g5.cell (j := 1) rfl⟩ (fun hH1 => ?_)
  clear hK K
  try simp only [Act.put, List.setIfInBounds_toArray, List.set_cons_zero, List.set_cons_succ]
  refine Rel.heldLast 8 rfl (by kernel_rfl) rfl (by kernel_rfl) fun K hK => ?_
  go_simp
  refine hK.out _ _ ?_
  clear hK K hH0 hH1 cM
  go_wp2
  go_ret
  exact ⟨s, rfl, es, hs5, C5, kF⟩
set_option maxRecDepth 10000 in
set_option maxHeartbeats 8000000 in
theorem ctruth_any {base q b f : Nat} {w : World} {p rows : Int} {S : St} (n : Int) (x y : Lc) (h : CP base w q b p f rows S) (h0 : 0 ≤ rows) (hs : rows + 3 ≤ 16384) (hv : vld S.p = true) (hS : Bd S n) (hn : n ≤ 20000) (hx : LinT w x) (hy : LinT w y) (lx : x.l.length ≤ 20000) (ly : y.l.length ≤ 20000) (bl : Nat) (g : Blk w bl #[lcV x, lcV y] 95) :
    Calls Tryz.prog 98 #[.pointer (some ⟨q, 0, none⟩), .int .i64 14, .slice (some ⟨bl, 0, none⟩) 2 2] w (RetCB base w q b p f (rows + 3) (gEqual S x.l y.l).1 (gEqual S x.l y.l).2) := by
  have cR := room_any 3 h h0 (by omega) hs
  have cE := fun W hB hx hy => Equal20_any base b S n x y W hB hv hS (by omega) hx hy (by omega) (by omega)
  obtain ⟨T, hT⟩ : ∃ T, gEqual S x.l y.l = T := ⟨_, rfl⟩
  rw [hT] at cE ⊢
  clear hT
  have hz := h.lt
  unfold lcV at *
  go_enter Tryz.func98, Tryz.ntmps98
  go_wp2_with fail
  refine cR.mono ?_
  rintro e w1 ⟨rfl, C1, k1⟩
  have g1 := k1.kx.typ _ _ _ g (by unfold XCp; decide)
  clear cR g h
  go_wp2_with fail
  refine Rel.region_any Tryz.mixed fun w4 hb4 => ?_
  have C4 := C1.mono hb4
  have k4 := k1.trans (KM.of_below hb4 C1.lt)
  have g4 := g1.mono hb4
  clear C1 k1 g1
  refine Rel.any_held (fun W => W.cell? ⟨q, 1, none⟩ = some (.pointer (some ⟨b, 0, none⟩)) ∧ W.cell? ⟨bl, 0, none⟩ = some (.slice x.ad x.l.length x.cap) ∧ W.cell? ⟨bl, 1, none⟩ = some (.slice y.ad y.l.length y.cap)) 11 ⟨C4.blk.cell (j := 1) rfl, g4.cell (j := 0) rfl, g4.cell (j := 1) rfl⟩ fun hH0 => ?_
  refine Rel.tk (v := ?_) 0 ?_ ?_
  rotate_left
  · (intro W hSw; (try dsimp only at hSw); go_simp; try with_reducible rfl)
  try simp only [Act.put, List.setIfInBounds_toArray, List.set_cons_zero, List.set_cons_succ]
  refine Rel.tk (v := ?_) 1 ?_ ?_
  rotate_left
  · (intro W hSw; (try dsimp only at hSw); go_simp; try with_reducible rfl)
  try simp only [Act.put, List.setIfInBounds_toArray, List.set_cons_zero, List.set_cons_succ]
  refine Rel.tk (v := ?_) 2 ?_ ?_
  rotate_left
  · (intro W hSw; (try dsimp only at hSw); go_simp; try with_reducible rfl)
  try simp only [Act.put, List.setIfInBounds_toArray, List.set_cons_zero, List.set_cons_succ]
  refine Rel.tk (v := ?_) 3 ?_ ?_
  rotate_left
  · (intro W hSw; (try dsimp only at hSw); go_simp; try with_reducible rfl)
  try simp only [Act.put, List.setIfInBounds_toArray, List.set_cons_zero, List.set_cons_succ]
  refine Rel.tk (v := ?_) 4 ?_ ?_
  rotate_left
  · (intro W hSw; (try dsimp only at hSw); go_simp; try with_reducible rfl)
  try simp only [Act.put, List.setIfInBounds_toArray, List.set_cons_zero, List.set_cons_succ]
  refine Rel.tk (v := ?_) 5 ?_ ?_
  rotate_left
  · (intro W hSw; (try dsimp only at hSw); go_simp; try with_reducible rfl)
  try simp only [Act.put, List.setIfInBounds_toArray, List.set_cons_zero, List.set_cons_succ]
  refine Rel.tk (v := ?_) 6 ?_ ?_
  rotate_left
  · (intro W hSw; (try dsimp only at hSw); go_simp; try with_reducible rfl)
  try simp only [Act.put, List.setIfInBounds_toArray, List.set_cons_zero, List.set_cons_succ]
  refine Rel.tk (v := ?_) 7 ?_ ?_
  rotate_left
  · (intro W hSw; (try dsimp only at hSw); go_simp; try with_reducible rfl)
  try simp only [Act.put, List.setIfInBounds_toArray, List.set_cons_zero, List.set_cons_succ]
  refine Rel.tk (v := ?_) 8 ?_ ?_
  rotate_left
  · (intro W hSw; (try dsimp only at hSw); go_simp; try with_reducible rfl)
  try simp only [Act.put, List.setIfInBounds_toArray, List.set_cons_zero, List.set_cons_succ]
  refine Rel.tk (v := ?_) 9 ?_ ?_
  rotate_left
  · (intro W hSw; (try dsimp only at hSw); go_simp; try with_reducible rfl)
  try simp only [Act.put, List.setIfInBounds_toArray, List.set_cons_zero, List.set_cons_succ]
  refine Rel.heldNext 10 rfl (by kernel_rfl) fun K hK => ?_
  go_simp
  refine (cE w4 C4.bld (k4.lin hx) (k4.lin hy)).mono ?_
  rintro e w5 ⟨s, rfl, es, hs5, hB5, k5⟩
  have g5 := k5.typ _ _ _ g4 (by decide) (by decide) (by decide)
  have C5 := C4.kept k5 hB5
  have kF := k4.trans (KM.of_kept k5)
  refine hK.out _ _ ⟨C5.blk.cell (j := 1) rfl, g5.cell (j := 0) rfl, g5.cell (j := 1) rfl⟩ (fun hH1 => ?_)
  clear hK K
  try simp only [Act.put, List.setIfInBounds_toArray, List.set_cons_zero, List.set_cons_succ]
  refine Rel.heldLast 11 rfl (by kernel_rfl) rfl (by kernel_rfl) fun K hK => ?_
  go_simp
  refine hK.out _ _ ?_
  clear hK K hH0 hH1 cE
  go_wp2
  go_ret
  exact ⟨s, rfl, es, hs5, C5, kF⟩
/-- The rows that a power takes. -/
def xrows (p : Int) : Int := if fexp p = 3 then 2 else if fexp p = 5 then 3 else 4
theorem xrows_bd (p : Int) : 2 ≤ xrows p ∧ xrows p ≤ 4 := by
  unfold xrows
  split
  · omega
  · split <;> omega
theorem fexp_357 {p : Int} (hv : vld p = true) : fexp p = 3 ∨ fexp p = 5 ∨ fexp p = 7 := by
  rcases vld_cases hv with rfl | rfl | rfl | rfl | rfl | rfl | rfl <;> simp [fexp, fnum]
theorem run_ins (w : World) (m : Nat) (es : Array MapEntry) (c : Nat) (k v : Int) (hm : w.heap[m]? = some (.map es c)) (hf : Instr.findNow (.int .u64) (.int .u64 k) es.toList 0 = some none) :
    (Instr.mapUpdate 243 (.map (some m)) (.int .u64 k) (.int .i64 v)).run Tryz.prog w = .ok () { w with heap := w.heap.setIfInBounds m (.map (es.push ⟨.int .u64 k, .int .i64 v, c⟩) (c + 1)) } := by
  have hk : Tryz.prog.underlying 23 = some (.int .u64) := Tryz.underlying23
  have hc : (Instr.checkKey false 10000 23 (.int .u64 k)).run Tryz.prog w = .ok () w := MapKept.run_checkKey (k := .int .u64 k) hk (by simp [MapKept.IsKey]) _ 9999
  have hfk : (Instr.findKey 23 (.int .u64 k) es.toList).run Tryz.prog w = .ok none w := by simp [Instr.findKey, run_underlying hk, hf, Result.andThen]
  simp [Instr.mapUpdate, run_underlying Tryz.underlying243, MapKept.run_getObj_map hm, hc, hfk, MapKept.run_setObj_map _ hm, Result.andThen]
theorem alloc_setM (w : World) (o o' : Obj) : { w.alloc o with heap := (w.alloc o).heap.setIfInBounds w.heap.size o' } = w.alloc o' := by
  show ({ w with heap := (w.heap.push o).setIfInBounds w.heap.size o' } : World) = { w with heap := w.heap.push o' }
  have : (w.heap.push o).setIfInBounds w.heap.size o' = w.heap.push o' := by
    apply Array.ext'
    rw [Array.toList_setIfInBounds, Array.toList_push, Array.toList_push, ← Array.length_toList, List.set_append_right _ _ (Nat.le_refl _), Nat.sub_self]
    rfl
  rw [this]
theorem run_ins3 (W : World) : (Instr.mapUpdate 243 (.map (some W.heap.size)) (.int .u64 3) (.int .i64 2)).run Tryz.prog (W.alloc (.map #[] 0)) = .ok () (W.alloc (.map #[⟨.int .u64 3, .int .i64 2, 0⟩] 1)) := by
  rw [run_ins _ _ #[] 0 3 2 (MapKept.heap_alloc W _).1 (by rfl), alloc_setM]
  rfl
theorem run_ins5 (W : World) : (Instr.mapUpdate 243 (.map (some W.heap.size)) (.int .u64 5) (.int .i64 3)).run Tryz.prog (W.alloc (.map #[⟨.int .u64 3, .int .i64 2, 0⟩] 1)) = .ok () (W.alloc (.map #[⟨.int .u64 3, .int .i64 2, 0⟩, ⟨.int .u64 5, .int .i64 3, 1⟩] 2)) := by
  rw [run_ins _ _ #[⟨.int .u64 3, .int .i64 2, 0⟩] 1 5 3 (MapKept.heap_alloc W _).1 (by rfl), alloc_setM]
  rfl
theorem run_ins7 (W : World) : (Instr.mapUpdate 243 (.map (some W.heap.size)) (.int .u64 7) (.int .i64 4)).run Tryz.prog (W.alloc (.map #[⟨.int .u64 3, .int .i64 2, 0⟩, ⟨.int .u64 5, .int .i64 3, 1⟩] 2)) = .ok () (W.alloc (.map #[⟨.int .u64 3, .int .i64 2, 0⟩, ⟨.int .u64 5, .int .i64 3, 1⟩, ⟨.int .u64 7, .int .i64 4, 2⟩] 3)) := by
  rw [run_ins _ _ #[⟨.int .u64 3, .int .i64 2, 0⟩, ⟨.int .u64 5, .int .i64 3, 1⟩] 2 7 4 (MapKept.heap_alloc W _).1 (by rfl), alloc_setM]
  rfl
theorem run_exlook {p : Int} (hv : vld p = true) (m : Nat) (W : World) (hm : W.heap[m]? = some (.map #[⟨.int .u64 3, .int .i64 2, 0⟩, ⟨.int .u64 5, .int .i64 3, 1⟩, ⟨.int .u64 7, .int .i64 4, 2⟩] 3)) :
    (Instr.lookup 243 (.map (some m)) (.int .u64 (fexp p)) false).run Tryz.prog W = .ok (.int .i64 (xrows p)) W := by
  have hk : Tryz.prog.underlying 23 = some (.int .u64) := Tryz.underlying23
  have hc : ∀ e : Int, (Instr.checkKey false 10000 23 (.int .u64 e)).run Tryz.prog W = .ok () W := fun e => MapKept.run_checkKey (k := .int .u64 e) hk (by simp [MapKept.IsKey]) _ 9999
  have key : ∀ e r : Int, (∃ j, Instr.findNow (.int .u64) (.int .u64 e) [⟨.int .u64 3, .int .i64 2, 0⟩, ⟨.int .u64 5, .int .i64 3, 1⟩, ⟨.int .u64 7, .int .i64 4, 2⟩] 0 = some (some (j, .int .i64 r))) → (Instr.lookup 243 (.map (some m)) (.int .u64 e) false).run Tryz.prog W = .ok (.int .i64 r) W := fun e r ⟨j, hf⟩ => by
    have hfk : (Instr.findKey 23 (.int .u64 e) [⟨.int .u64 3, .int .i64 2, 0⟩, ⟨.int .u64 5, .int .i64 3, 1⟩, ⟨.int .u64 7, .int .i64 4, 2⟩]).run Tryz.prog W = .ok (some (j, .int .i64 r)) W := by simp [Instr.findKey, run_underlying hk, hf, Result.andThen]
    simp [Instr.lookup, run_underlying Tryz.underlying243, MapKept.run_getObj_map hm, hc e, hfk, Result.andThen]
  unfold xrows
  rcases fexp_357 hv with h | h | h <;> rw [h]
  · exact key 3 2 ⟨0, by rfl⟩
  · exact key 5 3 ⟨1, by rfl⟩
  · exact key 7 4 ⟨2, by rfl⟩
set_option maxRecDepth 10000 in
set_option maxHeartbeats 8000000 in
theorem chash_any {base q b f : Nat} {w : World} {p rows : Int} {S : St} (n : Int) (x y : Lc) (h : CP base w q b p f rows S) (h0 : 0 ≤ rows) (hs : rows + 96 ≤ 16384) (hv : vld S.p = true) (hS : Bd S n) (hn : n ≤ 20000) (hx : LinT w x) (hy : LinT w y) (lx : x.l.length ≤ 20000) (ly : y.l.length ≤ 20000) (bl : Nat) (g : Blk w bl #[lcV x, lcV y] 95) (label : Int) (hlab : 0 ≤ label ∧ label < 18446744073709551616) (hp : S.p = p) :
    Calls Tryz.prog 92 #[.pointer (some ⟨q, 0, none⟩), .int .u64 label, .slice (some ⟨bl, 0, none⟩) 2 2] w (RetCB base w q b p f (rows + 24 * xrows p) (gHash S label [x.l, y.l]).1 (gHash S label [x.l, y.l]).2) := by
  have hmm := @run_makeMap Tryz.prog
  have i3 := run_ins3
  have i5 := run_ins5
  have i7 := run_ins7
  have hvp : vld p = true := by rw [← hp]; exact hv
  have hlk := fun W hm => run_exlook hvp w.heap.size W hm
  have hr := xrows_bd p
  have cX := fun W => Exponent_any p W
  have cR := fun W (hC : CP base W q b p f rows S) => room_any (24 * xrows p) hC h0 (by omega) (by omega)
  have cH : ∀ W B, Bld W base b S → Blk W bl #[lcV x, lcV y] 95 → B ≤ bl → LinT W x → LinT W y → Calls Tryz.prog 153 #[.pointer (some ⟨b, 0, none⟩), .int .u64 label, .slice (some ⟨bl, 0, none⟩) 2 2] W (RetB W base b (gHash S label [x.l, y.l]).1 (gHash S label [x.l, y.l]).2) := fun W B hB hg hbl hx hy =>
    Hash20_any base b B S n label (some ⟨bl, 0, none⟩) 2 [x, y] W hB hv hS (by omega) hlab (OwnG.of_blk (L := lcL) (xs := [x, y]) hbl hg (show 2 ≤ 2 from Nat.le_refl _) (show 2 ≤ maxLen by decide) rfl rfl) (fun s hs => by
      rcases List.mem_cons.1 hs with rfl | hs
      · exact hx
      · rcases List.mem_cons.1 hs with rfl | hs
        · exact hy
        · cases hs) (fun s hs => by
      rcases List.mem_cons.1 hs with rfl | hs
      · exact lx
      · rcases List.mem_cons.1 hs with rfl | hs
        · exact ly
        · cases hs) (show 2 ≤ 1000 by decide)
  obtain ⟨T, hT⟩ : ∃ T, gHash S label [x.l, y.l] = T := ⟨_, rfl⟩
  rw [hT] at cH ⊢
  generalize xrows p = r at *
  generalize fexp p = fe at *
  have hw1 : IntKind.i64.wrap (24 * r) = 24 * r := by rw [IntKind.wrap_i64]; omega
  have hz := h.lt
  have c0 : (w.alloc (.map #[⟨.int .u64 3, .int .i64 2, 0⟩, ⟨.int .u64 5, .int .i64 3, 1⟩, ⟨.int .u64 7, .int .i64 4, 2⟩] 3)).cell? ⟨q, 0, none⟩ = some (.int .u64 p) := (h.blk.alloc _).cell rfl
  clear hT hp hvp
  unfold lcV at *
  go_enter Tryz.func92, Tryz.ntmps92
  go_wp2_with fail
  refine name_calls fun W hN => ?_
  have hm : W.heap[w.heap.size]? = some (.map #[⟨.int .u64 3, .int .i64 2, 0⟩, ⟨.int .u64 5, .int .i64 3, 1⟩, ⟨.int .u64 7, .int .i64 4, 2⟩] 3) := by rw [hN]; exact (MapKept.heap_alloc w _).1
  have hB : Below w.heap.size w W := by rw [hN]; exact (Below.refl _ _).alloc (Nat.le_refl _) _
  clear hN hmm i3 i5 i7 c0
  refine (cX W).mono ?_
  rintro e w1 ⟨rfl, hb1⟩
  have hl := hlk w1 (map_below hm hb1)
  have hB1 := below2 hB hb1
  have C1 := h.mono hB1
  have k1 := KM.of_below hB1 hz
  have g1 := g.mono hB1
  clear hlk hm hB hb1 h g cX
  go_wp2_with fail
  refine (cR w1 C1).mono ?_
  rintro e w2 ⟨rfl, C2, k2⟩
  have k12 := k1.trans k2
  have g2 := k2.kx.typ _ _ _ g1 (by unfold XCp; decide)
  have c1 := C2.blk.cell (j := 1) (v := .pointer (some ⟨b, 0, none⟩)) rfl
  clear cR C1 k1 g1 hl
  go_wp2_with fail
  refine (cH w2 0 C2.bld g2 (Nat.zero_le _) (k12.lin hx) (k12.lin hy)).mono ?_
  rintro e w3 ⟨s, rfl, es, hs3, hB3, k3⟩
  have C3 := C2.kept k3 hB3
  have kF := k12.trans (KM.of_kept k3)
  clear c1 C2 cH
  go_wp2
  go_ret
  exact ⟨s, rfl, es, hs3, C3, kF⟩
end Go.Proofs.YtalmgeefkcebdaaGreatDoor

