/- The parser: binary with an operator. -/
import Derived.Test.YtalmgeefkcebdaaGreatDoorQ17
namespace Go.Proofs.YtalmgeefkcebdaaGreatDoor
open Go.RowKit

/-- The state inside binary: the result's block, the block of what has been read. -/
structure BJ (w0 w wr : World) (q g b5 : Nat) (L : List Tk4) (k : Nat) (t : Tr) (ev : Ev) : Prop where
  ga : Blk wr w.heap.size #[.int .i64 0, .int .u64 0, .string ⟨#[]⟩, .slice none 0 0] 29
  gb : Blk wr b5 #[.int .i64 ev.op, .int .u64 ev.val, .string ev.nm, .slice ev.ad ev.n ev.c] 29
  rep : Rep wr (fun b => w.heap.size < b ∧ b ≠ b5) t ev
  ps : PZ w0 wr q g L k
  kx : KX XPr w0.heap.size w wr
theorem BJ.mono {w0 w wr w' : World} {q g b5 k : Nat} {L : List Tk4} {t : Tr} {ev : Ev} (h : BJ w0 w wr q g b5 L k t ev) (hb : Below wr.heap.size wr w') : BJ w0 w w' q g b5 L k t ev :=
  ⟨h.ga.mono hb, h.gb.mono hb, h.rep.mono hb, h.ps.mono hb, h.kx.trans (KX.of_below hb h.ps.size)⟩
theorem BJ.pr {w0 w wr w' : World} {q g b5 k k2 : Nat} {L : List Tk4} {t : Tr} {ev : Ev} (h : BJ w0 w wr q g b5 L k t ev) (kx : KX XPr w0.heap.size wr w') (p : PZ w0 w' q g L k2) : BJ w0 w w' q g b5 L k2 t ev :=
  ⟨kx.typ _ _ _ h.ga xpEx, kx.typ _ _ _ h.gb xpEx, h.rep.kx kx xpEx, p, h.kx.trans kx⟩
/-- The node of two, stored. -/
theorem BJ.node {w0 w wr : World} {q g b5 k bs : Nat} {L : List Tk4} {tl tr : Tr} {el er : Ev} (h : BJ w0 w wr q g b5 L k tl el) (op : Int) (hR : Rep wr (fun b => w.heap.size < b ∧ b ≠ b5) tr er) (hz : w0.heap.size ≤ w.heap.size) (hlt : q < w.heap.size ∧ g < w.heap.size) (h5 : w.heap.size < b5) (hs : w.heap.size < bs ∧ bs ≠ b5)
    (gs : Blk wr bs #[.int .i64 el.op, .int .u64 el.val, .string el.nm, .slice el.ad el.n el.c, .int .i64 er.op, .int .u64 er.val, .string er.nm, .slice er.ad er.n er.c] 29) :
    BJ w0 w ((((wr.setCell ⟨b5, 0, none⟩ (.int .i64 op)).setCell ⟨b5, 1, none⟩ (.int .u64 0)).setCell ⟨b5, 2, none⟩ (.string ⟨#[]⟩)).setCell ⟨b5, 3, none⟩ (.slice (some ⟨bs, 0, none⟩) 2 2)) q g b5 L k (.bin op 0 tl tr) ⟨op, 0, ⟨#[]⟩, some ⟨bs, 0, none⟩, 2, 2⟩ := by
  have hn : ¬ (fun b => w.heap.size < b ∧ b ≠ b5) b5 := fun h => h.2 rfl
  refine ⟨(((h.ga.other (by omega) _ _).other (by omega) _ _).other (by omega) _ _).other (by omega) _ _, (((h.gb.set 0 _).set 1 _).set 2 _).set 3 _, ?_, ?_, ?_⟩
  · exact ⟨bs, el, er, rfl, hs, (((gs.other (Ne.symm hs.2) _ _).other (Ne.symm hs.2) _ _).other (Ne.symm hs.2) _ _).other (Ne.symm hs.2) _ _, (((h.rep.setN hn).setN hn).setN hn).setN hn, (((hR.setN hn).setN hn).setN hn).setN hn⟩
  · exact (((h.ps.setN (b := b5) (by omega) (by omega) (by omega)).setN (b := b5) (by omega) (by omega) (by omega)).setN (b := b5) (by omega) (by omega) (by omega)).setN (b := b5) (by omega) (by omega) (by omega)
  · exact (((h.kx.setN (b := b5) (by omega) hz).setN (b := b5) (by omega) hz).setN (b := b5) (by omega) hz).setN (b := b5) (by omega) hz
theorem size_of_kx {X : TypeId → Prop} {base : Nat} {w w' : World} {b : Nat} {cs : Array Value} {T : TypeId} (k : KX X base w w') (_ : Blk w b cs T) : w.heap.size ≤ w'.heap.size := k.below.size

set_option maxRecDepth 10000 in
set_option maxHeartbeats 4000000 in
theorem binary_cmp {w0 w : World} {q g k k1 k3 : Nat} {L : List Tk4} (h : PZ w0 w q g L k) (op : Int) (tl tr : Tr)
    (hS : ∀ W, PZ w0 W q g L k → KX XPr w0.heap.size w W → Calls Tryz.prog 121 #[.pointer (some ⟨q, 0, none⟩), .int .i64 3] W (RetE w0 W q g L k1 tl))
    (hO : ∀ W, PZ w0 W q g L k1 → KX XPr w0.heap.size w W → Calls Tryz.prog 181 #[.pointer (some ⟨q, 0, none⟩), .int .i64 2] W (RetPZ w0 W q g L (k1 + 1) (.tuple #[.int .i64 op, .bool true])))
    (hT : ∀ W, PZ w0 W q g L (k1 + 1) → KX XPr w0.heap.size w W → Calls Tryz.prog 121 #[.pointer (some ⟨q, 0, none⟩), .int .i64 3] W (RetE w0 W q g L k3 tr)) :
    Calls Tryz.prog 121 #[.pointer (some ⟨q, 0, none⟩), .int .i64 2] w (RetE w0 w q g L k3 (.bin op 0 tl tr)) := by
  have hz := h.size
  have hlt := h.lts
  go_enter Tryz.func121, Tryz.ntmps121
  go_wp2_with fail
  refine name_calls fun W hN => ?_
  have hbW : Below w.heap.size w W := by rw [hN]; exact (Below.refl _ _).alloc (Nat.le_refl _) _
  have gA : Blk W w.heap.size #[.int .i64 0, .int .u64 0, .string ⟨#[]⟩, .slice none 0 0] 29 := by rw [hN]; exact Blk.newAt rfl
  have hWz : w.heap.size < W.heap.size := gA.lt
  clear hN
  have kW := KX.of_below (X := XPr) hbW hz
  refine (hS W (h.mono hbW) kW).mono ?_
  rintro e w1 ⟨el, rfl, hR, p1, k1'⟩
  replace gA := k1'.typ _ _ _ gA xpEx
  have h5 : w.heap.size < w1.heap.size := gA.lt
  have J0 : BJ w0 w (w1.alloc (.cells #[.int .i64 el.op, .int .u64 el.val, .string el.nm, .slice el.ad el.n el.c] 29)) q g w1.heap.size L k1 tl el := by
    have hbB : Below w1.heap.size w1 (w1.alloc (.cells #[.int .i64 el.op, .int .u64 el.val, .string el.nm, .slice el.ad el.n el.c] 29)) := (Below.refl _ _).alloc (Nat.le_refl _) _
    exact ⟨gA.mono hbB, Blk.new _ _ _, (hR.imp (fun b hb hl => ⟨by omega, by omega⟩)).mono hbB, p1.mono hbB, (kW.trans k1').trans (KX.of_below hbB p1.size)⟩
  unfold evV
  clear hS hR k1' hbW gA p1 kW
  go_wp2_with fail
  go_loopw [] (fun wr => (BJ w0 w wr q g w1.heap.size L k1 tl el ∧ wr.heap.size = w1.heap.size + 1)) (fun wr => if wr.heap.size ≤ w1.heap.size + 1 then 1 else 0)
  case atStart => exact ⟨J0, by simp⟩
  case round =>
    clear J0
    obtain ⟨J, hws⟩ := hrel
    go_wp2_with fail
    refine (hO wr J.ps J.kx).mono ?_
    rintro e w2 ⟨rfl, p2, k2⟩
    replace J := J.pr k2 p2
    have hs2 : wr.heap.size ≤ w2.heap.size := k2.below.size
    clear hO k2 p2
    go_wp2_with fail
    refine Rel.region_any Tryz.mixed fun w4 hb4 => ?_
    replace J := J.mono hb4
    have hs4 := hb4.size
    clear hb4
    refine Rel.any_held (fun W => W.cell? ⟨w1.heap.size, 0, none⟩ = some (.int .i64 el.op) ∧ W.cell? ⟨w1.heap.size, 1, none⟩ = some (.int .u64 el.val) ∧ W.cell? ⟨w1.heap.size, 2, none⟩ = some (.string el.nm) ∧ W.cell? ⟨w1.heap.size, 3, none⟩ = some (.slice el.ad el.n el.c)) 8 ⟨J.gb.cell (j := 0) rfl, J.gb.cell (j := 1) rfl, J.gb.cell (j := 2) rfl, J.gb.cell (j := 3) rfl⟩ fun hH0 => ?_
    refine Rel.tk (v := ?_) 0 ?_ ?_
    rotate_left
    · (intro W hSw; (try dsimp only at hSw); go_simp; try with_reducible rfl)
    try simp only [Act.put, List.setIfInBounds_toArray, List.set_cons_zero, List.set_cons_succ]
    refine Rel.tk (v := ?_) 1 ?_ ?_
    rotate_left
    · (intro W hSw; (try dsimp only at hSw); go_simp; try with_reducible rfl)
    try simp only [Act.put, List.setIfInBounds_toArray, List.set_cons_zero, List.set_cons_succ]
    refine Rel.tk (v := ?_) 2 ?_ ?_
    rotate_left
    · (intro W hSw; (try dsimp only at hSw); go_simp; try with_reducible rfl)
    try simp only [Act.put, List.setIfInBounds_toArray, List.set_cons_zero, List.set_cons_succ]
    refine Rel.tk (v := ?_) 3 ?_ ?_
    rotate_left
    · (intro W hSw; (try dsimp only at hSw); go_simp; try with_reducible rfl)
    try simp only [Act.put, List.setIfInBounds_toArray, List.set_cons_zero, List.set_cons_succ]
    refine Rel.tk (v := ?_) 4 ?_ ?_
    rotate_left
    · (intro W hSw; (try dsimp only at hSw); go_simp; try with_reducible rfl)
    try simp only [Act.put, List.setIfInBounds_toArray, List.set_cons_zero, List.set_cons_succ]
    refine Rel.heldNext 5 rfl (by kernel_rfl) fun K hK => ?_
    go_simp
    refine (hT w4 J.ps J.kx).mono ?_
    rintro e w5 ⟨er, rfl, hRr, p5, k5⟩
    have hs5 : w4.heap.size ≤ w5.heap.size := size_of_kx k5 J.ga
    replace J := J.pr k5 p5
    have hRr1 : Rep w5 (fun b => w.heap.size < b ∧ b ≠ w1.heap.size) tr er := hRr.imp (fun b hb _ => ⟨by omega, by omega⟩)
    unfold evV
    clear hT k5 p5 hRr
    refine hK.out _ _ ⟨J.gb.cell (j := 0) rfl, J.gb.cell (j := 1) rfl, J.gb.cell (j := 2) rfl, J.gb.cell (j := 3) rfl⟩ (fun hH1 => ?_)
    clear hK K
    try simp only [Act.put, List.setIfInBounds_toArray, List.set_cons_zero, List.set_cons_succ]
    refine Rel.heldNext 6 rfl (by kernel_rfl) fun K hK => ?_
    go_simp
    have bA := (Below.refl w5.heap.size w5).alloc (Nat.le_refl _) (.cells #[.int .i64 el.op, .int .u64 el.val, .string el.nm, .slice el.ad el.n el.c, .int .i64 er.op, .int .u64 er.val, .string er.nm, .slice er.ad er.n er.c] 29)
    have gs := Blk.new w5 #[.int .i64 el.op, .int .u64 el.val, .string el.nm, .slice el.ad el.n el.c, .int .i64 er.op, .int .u64 er.val, .string er.nm, .slice er.ad er.n er.c] 29
    replace J := J.mono bA
    replace hRr1 := hRr1.mono bA
    clear bA
    refine hK.out _ _ ⟨J.gb.cell (j := 0) rfl, J.gb.cell (j := 1) rfl, J.gb.cell (j := 2) rfl, J.gb.cell (j := 3) rfl⟩ (fun hH2 => ?_)
    clear hK K
    try simp only [Act.put, List.setIfInBounds_toArray, List.set_cons_zero, List.set_cons_succ]
    refine Rel.heldNext 7 rfl (by kernel_rfl) fun K hK => ?_
    go_simp
    refine (node_any op (some ⟨w5.heap.size, 0, none⟩) 2 2 _).mono ?_
    rintro e w7 ⟨rfl, hb7⟩
    replace J := J.mono hb7
    replace hRr1 := hRr1.mono hb7
    replace gs := gs.mono hb7
    unfold evV
    clear hb7
    have j0 := J.gb.cell (j := 0) (v := .int .i64 el.op) rfl; have j1 := J.gb.cell (j := 1) (v := .int .u64 el.val) rfl; have j2 := J.gb.cell (j := 2) (v := .string el.nm) rfl; have j3 := J.gb.cell (j := 3) (v := .slice el.ad el.n el.c) rfl
    have jf := J.gb.free
    refine hK.out _ _ ⟨j0, j1, j2, j3⟩ (fun hH3 => ?_)
    clear hK K
    refine Rel.heldLast 8 rfl (by kernel_rfl) rfl (by kernel_rfl) fun K hK => ?_
    go_simp
    refine hK.out _ _ ?_
    clear hK K hH0 hH1 hH2 hH3 j0 j1 j2 j3 jf
    have hgs := gs.lt
    replace J := J.node op hRr1 hz hlt h5 ⟨by omega, by omega⟩ gs
    clear gs hRr1
    have y0 := J.gb.cell (j := 0) (v := .int .i64 op) rfl; have y1 := J.gb.cell (j := 1) (v := .int .u64 0) rfl; have y2 := J.gb.cell (j := 2) (v := .string ⟨#[]⟩) rfl; have y3 := J.gb.cell (j := 3) (v := .slice (some ⟨w5.heap.size, 0, none⟩) 2 2) rfl
    have a0 := J.ga.cell (j := 0) (v := .int .i64 0) rfl; have a1 := J.ga.cell (j := 1) (v := .int .u64 0) rfl; have a2 := J.ga.cell (j := 2) (v := .string ⟨#[]⟩) rfl; have a3 := J.ga.cell (j := 3) (v := .slice none 0 0) rfl
    have af := J.ga.free
    obtain ⟨W7, hW7⟩ : ∃ W7, W7 = _ := ⟨_, rfl⟩
    obtain ⟨gF, hF⟩ := exp_fin hz hlt J.ga (J.rep.imp (fun b hb _ => hb.1)) J.ps J.kx W7 hW7
    clear J
    go_wp2
    rw [← hW7]
    clear y0 y1 y2 y3 a0 a1 a2 a3 af hW7
    have z0 := gF.cell (j := 0) (v := .int .i64 op) rfl; have z1 := gF.cell (j := 1) (v := .int .u64 0) rfl; have z2 := gF.cell (j := 2) (v := .string ⟨#[]⟩) rfl; have z3 := gF.cell (j := 3) (v := .slice (some ⟨w5.heap.size, 0, none⟩) 2 2) rfl
    exact bodyPost_ret (v := evV ⟨op, 0, ⟨#[]⟩, some ⟨w5.heap.size, 0, none⟩, 2, 2⟩) (by simp [results, Tryz.results121, go_sem, evV, z0, z1, z2, z3]) rfl hF

set_option maxRecDepth 10000 in
set_option maxHeartbeats 4000000 in
theorem binary_mul {w0 w : World} {q g k k1 k3 : Nat} {L : List Tk4} (h : PZ w0 w q g L k) (op : Int) (tl tr : Tr)
    (hS : ∀ W, PZ w0 W q g L k → KX XPr w0.heap.size w W → Calls Tryz.prog 121 #[.pointer (some ⟨q, 0, none⟩), .int .i64 5] W (RetE w0 W q g L k1 tl))
    (hO : ∀ W, PZ w0 W q g L k1 → KX XPr w0.heap.size w W → Calls Tryz.prog 181 #[.pointer (some ⟨q, 0, none⟩), .int .i64 4] W (RetPZ w0 W q g L (k1 + 1) (.tuple #[.int .i64 op, .bool true])))
    (hT : ∀ W, PZ w0 W q g L (k1 + 1) → KX XPr w0.heap.size w W → Calls Tryz.prog 121 #[.pointer (some ⟨q, 0, none⟩), .int .i64 5] W (RetE w0 W q g L k3 tr))
    (hO2 : ∀ W, PZ w0 W q g L k3 → KX XPr w0.heap.size w W → Calls Tryz.prog 181 #[.pointer (some ⟨q, 0, none⟩), .int .i64 4] W fun e w' => e = .returned (.tuple #[.int .i64 0, .bool false]) ∧ Below W.heap.size W w') :
    Calls Tryz.prog 121 #[.pointer (some ⟨q, 0, none⟩), .int .i64 4] w (RetE w0 w q g L k3 (.bin op 0 tl tr)) := by
  have hz := h.size
  have hlt := h.lts
  go_enter Tryz.func121, Tryz.ntmps121
  go_wp2_with fail
  refine name_calls fun W hN => ?_
  have hbW : Below w.heap.size w W := by rw [hN]; exact (Below.refl _ _).alloc (Nat.le_refl _) _
  have gA : Blk W w.heap.size #[.int .i64 0, .int .u64 0, .string ⟨#[]⟩, .slice none 0 0] 29 := by rw [hN]; exact Blk.newAt rfl
  have hWz : w.heap.size < W.heap.size := gA.lt
  clear hN
  have kW := KX.of_below (X := XPr) hbW hz
  refine (hS W (h.mono hbW) kW).mono ?_
  rintro e w1 ⟨el, rfl, hR, p1, k1'⟩
  replace gA := k1'.typ _ _ _ gA xpEx
  have h5 : w.heap.size < w1.heap.size := gA.lt
  have J0 : BJ w0 w (w1.alloc (.cells #[.int .i64 el.op, .int .u64 el.val, .string el.nm, .slice el.ad el.n el.c] 29)) q g w1.heap.size L k1 tl el := by
    have hbB : Below w1.heap.size w1 (w1.alloc (.cells #[.int .i64 el.op, .int .u64 el.val, .string el.nm, .slice el.ad el.n el.c] 29)) := (Below.refl _ _).alloc (Nat.le_refl _) _
    exact ⟨gA.mono hbB, Blk.new _ _ _, (hR.imp (fun b hb hl => ⟨by omega, by omega⟩)).mono hbB, p1.mono hbB, (kW.trans k1').trans (KX.of_below hbB p1.size)⟩
  unfold evV
  clear hS hR k1' hbW gA p1 kW
  go_wp2_with fail
  go_loopw [] (fun wr => (BJ w0 w wr q g w1.heap.size L k1 tl el ∧ wr.heap.size = w1.heap.size + 1) ∨ (∃ en, BJ w0 w wr q g w1.heap.size L k3 (.bin op 0 tl tr) en ∧ w1.heap.size + 1 < wr.heap.size)) (fun wr => if wr.heap.size ≤ w1.heap.size + 1 then 1 else 0)
  case atStart => exact Or.inl ⟨J0, by simp⟩
  case round =>
    clear J0
    rcases hrel with ⟨J, hws⟩ | ⟨en, J, hws⟩
    · go_wp2_with fail
      refine (hO wr J.ps J.kx).mono ?_
      rintro e w2 ⟨rfl, p2, k2⟩
      replace J := J.pr k2 p2
      have hs2 : wr.heap.size ≤ w2.heap.size := k2.below.size
      clear hO k2 p2
      go_wp2_with fail
      refine Rel.region_any Tryz.mixed fun w4 hb4 => ?_
      replace J := J.mono hb4
      have hs4 := hb4.size
      clear hb4
      refine Rel.any_held (fun W => W.cell? ⟨w1.heap.size, 0, none⟩ = some (.int .i64 el.op) ∧ W.cell? ⟨w1.heap.size, 1, none⟩ = some (.int .u64 el.val) ∧ W.cell? ⟨w1.heap.size, 2, none⟩ = some (.string el.nm) ∧ W.cell? ⟨w1.heap.size, 3, none⟩ = some (.slice el.ad el.n el.c)) 8 ⟨J.gb.cell (j := 0) rfl, J.gb.cell (j := 1) rfl, J.gb.cell (j := 2) rfl, J.gb.cell (j := 3) rfl⟩ fun hH0 => ?_
      refine Rel.tk (v := ?_) 0 ?_ ?_
      rotate_left
      · (intro W hSw; (try dsimp only at hSw); go_simp; try with_reducible rfl)
      try simp only [Act.put, List.setIfInBounds_toArray, List.set_cons_zero, List.set_cons_succ]
      refine Rel.tk (v := ?_) 1 ?_ ?_
      rotate_left
      · (intro W hSw; (try dsimp only at hSw); go_simp; try with_reducible rfl)
      try simp only [Act.put, List.setIfInBounds_toArray, List.set_cons_zero, List.set_cons_succ]
      refine Rel.tk (v := ?_) 2 ?_ ?_
      rotate_left
      · (intro W hSw; (try dsimp only at hSw); go_simp; try with_reducible rfl)
      try simp only [Act.put, List.setIfInBounds_toArray, List.set_cons_zero, List.set_cons_succ]
      refine Rel.tk (v := ?_) 3 ?_ ?_
      rotate_left
      · (intro W hSw; (try dsimp only at hSw); go_simp; try with_reducible rfl)
      try simp only [Act.put, List.setIfInBounds_toArray, List.set_cons_zero, List.set_cons_succ]
      refine Rel.tk (v := ?_) 4 ?_ ?_
      rotate_left
      · (intro W hSw; (try dsimp only at hSw); go_simp; try with_reducible rfl)
      try simp only [Act.put, List.setIfInBounds_toArray, List.set_cons_zero, List.set_cons_succ]
      refine Rel.heldNext 5 rfl (by kernel_rfl) fun K hK => ?_
      go_simp
      refine (hT w4 J.ps J.kx).mono ?_
      rintro e w5 ⟨er, rfl, hRr, p5, k5⟩
      have hs5 : w4.heap.size ≤ w5.heap.size := size_of_kx k5 J.ga
      replace J := J.pr k5 p5
      have hRr1 : Rep w5 (fun b => w.heap.size < b ∧ b ≠ w1.heap.size) tr er := hRr.imp (fun b hb _ => ⟨by omega, by omega⟩)
      unfold evV
      clear hT k5 p5 hRr
      refine hK.out _ _ ⟨J.gb.cell (j := 0) rfl, J.gb.cell (j := 1) rfl, J.gb.cell (j := 2) rfl, J.gb.cell (j := 3) rfl⟩ (fun hH1 => ?_)
      clear hK K
      try simp only [Act.put, List.setIfInBounds_toArray, List.set_cons_zero, List.set_cons_succ]
      refine Rel.heldNext 6 rfl (by kernel_rfl) fun K hK => ?_
      go_simp
      have bA := (Below.refl w5.heap.size w5).alloc (Nat.le_refl _) (.cells #[.int .i64 el.op, .int .u64 el.val, .string el.nm, .slice el.ad el.n el.c, .int .i64 er.op, .int .u64 er.val, .string er.nm, .slice er.ad er.n er.c] 29)
      have gs := Blk.new w5 #[.int .i64 el.op, .int .u64 el.val, .string el.nm, .slice el.ad el.n el.c, .int .i64 er.op, .int .u64 er.val, .string er.nm, .slice er.ad er.n er.c] 29
      replace J := J.mono bA
      replace hRr1 := hRr1.mono bA
      clear bA
      refine hK.out _ _ ⟨J.gb.cell (j := 0) rfl, J.gb.cell (j := 1) rfl, J.gb.cell (j := 2) rfl, J.gb.cell (j := 3) rfl⟩ (fun hH2 => ?_)
      clear hK K
      try simp only [Act.put, List.setIfInBounds_toArray, List.set_cons_zero, List.set_cons_succ]
      refine Rel.heldNext 7 rfl (by kernel_rfl) fun K hK => ?_
      go_simp
      refine (node_any op (some ⟨w5.heap.size, 0, none⟩) 2 2 _).mono ?_
      rintro e w7 ⟨rfl, hb7⟩
      replace J := J.mono hb7
      replace hRr1 := hRr1.mono hb7
      replace gs := gs.mono hb7
      unfold evV
      clear hb7
      have j0 := J.gb.cell (j := 0) (v := .int .i64 el.op) rfl; have j1 := J.gb.cell (j := 1) (v := .int .u64 el.val) rfl; have j2 := J.gb.cell (j := 2) (v := .string el.nm) rfl; have j3 := J.gb.cell (j := 3) (v := .slice el.ad el.n el.c) rfl
      have jf := J.gb.free
      refine hK.out _ _ ⟨j0, j1, j2, j3⟩ (fun hH3 => ?_)
      clear hK K
      refine Rel.heldLast 8 rfl (by kernel_rfl) rfl (by kernel_rfl) fun K hK => ?_
      go_simp
      refine hK.out _ _ ?_
      clear hK K hH0 hH1 hH2 hH3 j0 j1 j2 j3 jf
      have hgs := gs.lt
      replace J := J.node op hRr1 hz hlt h5 ⟨by omega, by omega⟩ gs
      clear gs hRr1
      go_wp2
      go_roundw
      case rel => exact Or.inr ⟨_, J, by simp; omega⟩
      case measure => rw [if_neg (by simp; omega), if_pos (by omega)]; exact Nat.zero_lt_one
    · go_wp2_with fail
      refine (hO2 wr J.ps J.kx).mono ?_
      rintro e w2 ⟨rfl, hb2⟩
      replace J := J.mono hb2
      clear hO2 hb2
      have y0 := J.gb.cell (j := 0) (v := .int .i64 en.op) rfl; have y1 := J.gb.cell (j := 1) (v := .int .u64 en.val) rfl; have y2 := J.gb.cell (j := 2) (v := .string en.nm) rfl; have y3 := J.gb.cell (j := 3) (v := .slice en.ad en.n en.c) rfl
      have a0 := J.ga.cell (j := 0) (v := .int .i64 0) rfl; have a1 := J.ga.cell (j := 1) (v := .int .u64 0) rfl; have a2 := J.ga.cell (j := 2) (v := .string ⟨#[]⟩) rfl; have a3 := J.ga.cell (j := 3) (v := .slice none 0 0) rfl
      have af := J.ga.free
      obtain ⟨W7, hW7⟩ : ∃ W7, W7 = _ := ⟨_, rfl⟩
      obtain ⟨gF, hF⟩ := exp_fin hz hlt J.ga (J.rep.imp (fun b hb _ => hb.1)) J.ps J.kx W7 hW7
      clear J
      go_wp2
      rw [← hW7]
      clear y0 y1 y2 y3 a0 a1 a2 a3 af hW7
      have z0 := gF.cell (j := 0) (v := .int .i64 en.op) rfl; have z1 := gF.cell (j := 1) (v := .int .u64 en.val) rfl; have z2 := gF.cell (j := 2) (v := .string en.nm) rfl; have z3 := gF.cell (j := 3) (v := .slice en.ad en.n en.c) rfl
      exact bodyPost_ret (v := evV en) (by simp [results, Tryz.results121, go_sem, evV, z0, z1, z2, z3]) rfl hF

set_option maxRecDepth 10000 in
set_option maxHeartbeats 4000000 in
theorem expr_any {w0 w : World} {q g k k1 : Nat} {L : List Tk4} (h : PZ w0 w q g L k) (t : Tr)
    (hS : ∀ W, PZ w0 W q g L k → Calls Tryz.prog 121 #[.pointer (some ⟨q, 0, none⟩), .int .i64 0] W (RetE w0 W q g L k1 t)) (h1 : (L.getD k1 default).k ≠ 0) (hq : ((L.getD k1 default).t.toList == (⟨#[63]⟩ : ByteArray).toList) = false) :
    Calls Tryz.prog 71 #[.pointer (some ⟨q, 0, none⟩)] w (RetE w0 w q g L k1 t) := by
  have cQ := fun W h => accept_no (w0 := w0) (w := W) (q := q) (g := g) h ⟨#[63]⟩ h1 hq
  have hz := h.size
  have hlt := h.lts
  clear h1 hq
  go_enter Tryz.func71, Tryz.ntmps71
  go_wp2_with fail
  refine name_calls fun W hN => ?_
  have hbW : Below w.heap.size w W := by rw [hN]; exact (Below.refl _ _).alloc (Nat.le_refl _) _
  have gA : Blk W w.heap.size #[.int .i64 0, .int .u64 0, .string ⟨#[]⟩, .slice none 0 0] 29 := by rw [hN]; exact Blk.newAt rfl
  have hWz : w.heap.size < W.heap.size := gA.lt
  clear hN
  refine (hS W (h.mono hbW)).mono ?_
  rintro e w1 ⟨ev, rfl, hR, p1, k1'⟩
  replace gA := k1'.typ _ _ _ gA xpEx
  have kx := (KX.of_below hbW hz).trans k1'
  have hR1 : Rep w1 (fun b => w.heap.size < b) t ev := hR.imp (fun b hb _ => by omega)
  have hbB : Below w1.heap.size w1 (w1.alloc (.cells #[.int .i64 ev.op, .int .u64 ev.val, .string ev.nm, .slice ev.ad ev.n ev.c] 29)) := (Below.refl _ _).alloc (Nat.le_refl _) _
  have gB := Blk.new w1 #[.int .i64 ev.op, .int .u64 ev.val, .string ev.nm, .slice ev.ad ev.n ev.c] 29
  have p2 := p1.mono hbB
  unfold evV
  clear hS hR k1' hbW
  go_wp2_with fail
  refine (cQ _ p2).mono ?_
  rintro e w4 ⟨rfl, hb4⟩
  have hb34 := below2 hbB hb4
  replace gA := gA.mono hb34
  replace gB := gB.mono hb4
  have p4 := p2.mono hb4
  have kx4 := kx.trans (KX.of_below hb34 p1.size)
  have hR4 := hR1.mono hb34
  clear cQ p2 p1 kx hb4 hbB hb34 hR1
  have y0 := gB.cell (j := 0) (v := .int .i64 ev.op) rfl; have y1 := gB.cell (j := 1) (v := .int .u64 ev.val) rfl; have y2 := gB.cell (j := 2) (v := .string ev.nm) rfl; have y3 := gB.cell (j := 3) (v := .slice ev.ad ev.n ev.c) rfl
  have a0 := gA.cell (j := 0) (v := .int .i64 0) rfl; have a1 := gA.cell (j := 1) (v := .int .u64 0) rfl; have a2 := gA.cell (j := 2) (v := .string ⟨#[]⟩) rfl; have a3 := gA.cell (j := 3) (v := .slice none 0 0) rfl
  have af := gA.free
  obtain ⟨W7, hW7⟩ : ∃ W7, W7 = _ := ⟨_, rfl⟩
  obtain ⟨gF, hF⟩ := exp_fin hz hlt gA hR4 p4 kx4 W7 hW7
  clear gA gB p4 kx4 hR4
  go_wp2
  rw [← hW7]
  clear y0 y1 y2 y3 a0 a1 a2 a3 af hW7
  have z0 := gF.cell (j := 0) (v := .int .i64 ev.op) rfl; have z1 := gF.cell (j := 1) (v := .int .u64 ev.val) rfl; have z2 := gF.cell (j := 2) (v := .string ev.nm) rfl; have z3 := gF.cell (j := 3) (v := .slice ev.ad ev.n ev.c) rfl
  exact bodyPost_ret (v := evV ev) (by simp [results, Tryz.results71, go_sem, evV, z0, z1, z2, z3]) rfl hF

/-- The tokens of the text, with the end. -/
def TL : List Tk4 := tks ++ [⟨0, ⟨#[]⟩, 52⟩]
theorem TL_len : TL.length = 18 := by kernel_rfl
section
variable {w0 : World} {q g : Nat}
theorem POps.at (hO : POps w0) (h2 : 2 < w0.heap.size) {W : World} {k : Nat} (h : PZ w0 W q g TL k) : POps W := by
  obtain ⟨m, c, h⟩ := h
  have hw : ∀ (a : Addr) v, a.block = 2 → w0.cell? a = some v → W.cell? a = some v := fun a v ha hv => by
    have := h.below.block 2 h2
    unfold World.cell? at *
    rw [ha] at *
    rw [this]
    exact hv
  exact ⟨hO.l0.mono hw, hO.l1.mono hw, hO.l2.mono hw, hO.l3.mono hw, hO.l4.mono hw⟩
abbrev nY : ByteArray := ⟨#[121]⟩
abbrev nX : ByteArray := ⟨#[120]⟩
theorem leaf_at (k : Nat) (n : ByteArray) (hk : k + 1 < TL.length) (hn : (TL.getD k default).t = n) (h0 : (TL.getD k default).k = 1) (hm : ((TL.getD k default).t.toList == (⟨#[45]⟩ : ByteArray).toList) = false) (ht : ((TL.getD k default).t.toList == (⟨#[110, 111, 116]⟩ : ByteArray).toList) = false)
    (h1 : (TL.getD (k + 1) default).k ≠ 0) (hp : ((TL.getD (k + 1) default).t.toList == (⟨#[40]⟩ : ByteArray).toList) = false) (hb : ((TL.getD (k + 1) default).t.toList == (⟨#[91]⟩ : ByteArray).toList) = false) (W : World) (h : PZ w0 W q g TL k) :
    Calls Tryz.prog 121 #[.pointer (some ⟨q, 0, none⟩), .int .i64 5] W (RetE w0 W q g TL (k + 1) (.nm n)) :=
  binary_leaf h n fun W2 p2 => by
    have := unary_any p2 hk h0 hm ht h1 hp hb
    rw [hn] at this
    exact this
theorem leaf11 (W : World) (h : PZ w0 W q g TL 11) : Calls Tryz.prog 121 #[.pointer (some ⟨q, 0, none⟩), .int .i64 5] W (RetE w0 W q g TL 12 (.nm nY)) :=
  leaf_at 11 nY (by decide +kernel) (by kernel_rfl) (by kernel_rfl) (by decide +kernel) (by decide +kernel) (by decide +kernel) (by decide +kernel) (by decide +kernel) W h
theorem leaf13 (W : World) (h : PZ w0 W q g TL 13) : Calls Tryz.prog 121 #[.pointer (some ⟨q, 0, none⟩), .int .i64 5] W (RetE w0 W q g TL 14 (.nm nY)) :=
  leaf_at 13 nY (by decide +kernel) (by kernel_rfl) (by kernel_rfl) (by decide +kernel) (by decide +kernel) (by decide +kernel) (by decide +kernel) (by decide +kernel) W h
theorem leaf15 (W : World) (h : PZ w0 W q g TL 15) : Calls Tryz.prog 121 #[.pointer (some ⟨q, 0, none⟩), .int .i64 5] W (RetE w0 W q g TL 16 (.nm nX)) :=
  leaf_at 15 nX (by decide +kernel) (by kernel_rfl) (by kernel_rfl) (by decide +kernel) (by decide +kernel) (by decide +kernel) (by decide +kernel) (by decide +kernel) W h
variable (hO : POps w0) (h2 : 2 < w0.heap.size)
include hO h2
theorem mul11 (W : World) (h : PZ w0 W q g TL 11) : Calls Tryz.prog 121 #[.pointer (some ⟨q, 0, none⟩), .int .i64 4] W (RetE w0 W q g TL 14 (.bin 11 0 (.nm nY) (.nm nY))) :=
  binary_mul h 11 (.nm nY) (.nm nY) (fun W p _ => leaf11 W p) (fun W p _ => operator_yes p (by decide +kernel) (by decide +kernel) 4 (by decide) (hO.at h2 p).l4 (by decide +kernel) (by decide +kernel)) (fun W p _ => leaf13 W p)
    (fun W p _ => operator_no p (by decide +kernel) 4 (by decide) (hO.at h2 p).l4 (by decide +kernel) (by decide +kernel) (by decide +kernel) (by decide +kernel))
theorem sum11 (W : World) (h : PZ w0 W q g TL 11) : Calls Tryz.prog 121 #[.pointer (some ⟨q, 0, none⟩), .int .i64 3] W (RetE w0 W q g TL 14 (.bin 11 0 (.nm nY) (.nm nY))) :=
  binary_pass h 3 (by decide) _ (fun W p _ => mul11 hO h2 W p) (fun W p _ => operator_no p (by decide +kernel) 3 (by decide) (hO.at h2 p).l3 (by decide +kernel) (by decide +kernel) (by decide +kernel) (by decide +kernel))
theorem mul15 (W : World) (h : PZ w0 W q g TL 15) : Calls Tryz.prog 121 #[.pointer (some ⟨q, 0, none⟩), .int .i64 4] W (RetE w0 W q g TL 16 (.nm nX)) :=
  binary_pass h 4 (by decide) _ (fun W p _ => leaf15 W p) (fun W p _ => operator_no p (by decide +kernel) 4 (by decide) (hO.at h2 p).l4 (by decide +kernel) (by decide +kernel) (by decide +kernel) (by decide +kernel))
theorem sum15 (W : World) (h : PZ w0 W q g TL 15) : Calls Tryz.prog 121 #[.pointer (some ⟨q, 0, none⟩), .int .i64 3] W (RetE w0 W q g TL 16 (.nm nX)) :=
  binary_pass h 3 (by decide) _ (fun W p _ => mul15 hO h2 W p) (fun W p _ => operator_no p (by decide +kernel) 3 (by decide) (hO.at h2 p).l3 (by decide +kernel) (by decide +kernel) (by decide +kernel) (by decide +kernel))
/-- The expression of the text: y * y == x. -/
def T0 : Tr := .bin 14 0 (.bin 11 0 (.nm nY) (.nm nY)) (.nm nX)
theorem cmp11 (W : World) (h : PZ w0 W q g TL 11) : Calls Tryz.prog 121 #[.pointer (some ⟨q, 0, none⟩), .int .i64 2] W (RetE w0 W q g TL 16 T0) :=
  binary_cmp h 14 _ _ (fun W p _ => sum11 hO h2 W p) (fun W p _ => operator_yes p (by decide +kernel) (by decide +kernel) 2 (by decide) (hO.at h2 p).l2 (by decide +kernel) (by decide +kernel)) (fun W p _ => sum15 hO h2 W p)
theorem and11 (W : World) (h : PZ w0 W q g TL 11) : Calls Tryz.prog 121 #[.pointer (some ⟨q, 0, none⟩), .int .i64 1] W (RetE w0 W q g TL 16 T0) :=
  binary_pass h 1 (by decide) _ (fun W p _ => cmp11 hO h2 W p) (fun W p _ => operator_no p (by decide +kernel) 1 (by decide) (hO.at h2 p).l1 (by decide +kernel) (by decide +kernel) (by decide +kernel) (by decide +kernel))
theorem or11 (W : World) (h : PZ w0 W q g TL 11) : Calls Tryz.prog 121 #[.pointer (some ⟨q, 0, none⟩), .int .i64 0] W (RetE w0 W q g TL 16 T0) :=
  binary_pass h 0 (by decide) _ (fun W p _ => and11 hO h2 W p) (fun W p _ => operator_no p (by decide +kernel) 0 (by decide) (hO.at h2 p).l0 (by decide +kernel) (by decide +kernel) (by decide +kernel) (by decide +kernel))
theorem expr11 (W : World) (h : PZ w0 W q g TL 11) : Calls Tryz.prog 71 #[.pointer (some ⟨q, 0, none⟩)] W (RetE w0 W q g TL 16 T0) :=
  expr_any h T0 (fun W p => or11 hO h2 W p) (by decide +kernel) (by decide +kernel)
end

theorem xpSt : ¬ XPr 38 := by unfold XPr; decide
/-- The cells of a statement: assert e. -/
def stC (e : Ev) : List Value := [.int .i64 2, .string ⟨#[]⟩, .bool false, .int .i64 0, .int .i64 0, .int .i64 0, .int .i64 e.op, .int .u64 e.val, .string e.nm, .slice e.ad e.n e.c, .int .i64 0, .int .i64 0, .slice none 0 0]
def stV (e : Ev) : Value := .agg (stC e).toArray
def RetS (w0 w : World) (q g : Nat) (L : List Tk4) (k : Nat) (t : Tr) (e : Ending) (w' : World) : Prop := ∃ ev, e = .returned (stV ev) ∧ Rep w' (fun b => w.heap.size ≤ b) t ev ∧ PZ w0 w' q g L k ∧ KX XPr w0.heap.size w w'

/-- The store of a statement into the result's block, and the end. -/
theorem st_fin {w0 w W : World} {q g k : Nat} {L : List Tk4} {t : Tr} {ev : Ev} (hz : w0.heap.size ≤ w.heap.size) (hlt : q < w.heap.size ∧ g < w.heap.size) (gA : Blk W w.heap.size #[.int .i64 0, .string ⟨#[]⟩, .bool false, .int .i64 0, .int .i64 0, .int .i64 0, .int .i64 0, .int .u64 0, .string ⟨#[]⟩, .slice none 0 0, .int .i64 0, .int .i64 0, .slice none 0 0] 38) (hR : Rep W (fun b => w.heap.size < b) t ev) (p : PZ w0 W q g L k) (kx : KX XPr w0.heap.size w W) :
    ∀ W', W' = (((((((((((((W.setCell ⟨w.heap.size, 0, none⟩ (.int .i64 2)).setCell ⟨w.heap.size, 1, none⟩ (.string ⟨#[]⟩)).setCell ⟨w.heap.size, 2, none⟩ (.bool false)).setCell ⟨w.heap.size, 3, none⟩ (.int .i64 0)).setCell ⟨w.heap.size, 4, none⟩ (.int .i64 0)).setCell ⟨w.heap.size, 5, none⟩ (.int .i64 0)).setCell ⟨w.heap.size, 6, none⟩ (.int .i64 ev.op)).setCell ⟨w.heap.size, 7, none⟩ (.int .u64 ev.val)).setCell ⟨w.heap.size, 8, none⟩ (.string ev.nm)).setCell ⟨w.heap.size, 9, none⟩ (.slice ev.ad ev.n ev.c)).setCell ⟨w.heap.size, 10, none⟩ (.int .i64 0)).setCell ⟨w.heap.size, 11, none⟩ (.int .i64 0)).setCell ⟨w.heap.size, 12, none⟩ (.slice none 0 0)) →
      Blk W' w.heap.size #[.int .i64 2, .string ⟨#[]⟩, .bool false, .int .i64 0, .int .i64 0, .int .i64 0, .int .i64 ev.op, .int .u64 ev.val, .string ev.nm, .slice ev.ad ev.n ev.c, .int .i64 0, .int .i64 0, .slice none 0 0] 38 ∧ RetS w0 w q g L k t (.returned (stV ev)) W' := by
  rintro W' rfl
  have hn : ¬ (fun b => w.heap.size < b) w.heap.size := Nat.lt_irrefl _
  exact ⟨(((((((((((((gA.set 0 _).set 1 _).set 2 _).set 3 _).set 4 _).set 5 _).set 6 _).set 7 _).set 8 _).set 9 _).set 10 _).set 11 _).set 12 _), ev, rfl, (((((((((((((hR.setN hn).setN hn).setN hn).setN hn).setN hn).setN hn).setN hn).setN hn).setN hn).setN hn).setN hn).setN hn).setN hn).imp (fun b hb _ => Nat.le_of_lt hb), (((((((((((((p.setN (b := w.heap.size) hz (by omega) (by omega)).setN (b := w.heap.size) hz (by omega) (by omega)).setN (b := w.heap.size) hz (by omega) (by omega)).setN (b := w.heap.size) hz (by omega) (by omega)).setN (b := w.heap.size) hz (by omega) (by omega)).setN (b := w.heap.size) hz (by omega) (by omega)).setN (b := w.heap.size) hz (by omega) (by omega)).setN (b := w.heap.size) hz (by omega) (by omega)).setN (b := w.heap.size) hz (by omega) (by omega)).setN (b := w.heap.size) hz (by omega) (by omega)).setN (b := w.heap.size) hz (by omega) (by omega)).setN (b := w.heap.size) hz (by omega) (by omega)).setN (b := w.heap.size) hz (by omega) (by omega)), (((((((((((((kx.setN (b := w.heap.size) (Nat.le_refl _) hz).setN (b := w.heap.size) (Nat.le_refl _) hz).setN (b := w.heap.size) (Nat.le_refl _) hz).setN (b := w.heap.size) (Nat.le_refl _) hz).setN (b := w.heap.size) (Nat.le_refl _) hz).setN (b := w.heap.size) (Nat.le_refl _) hz).setN (b := w.heap.size) (Nat.le_refl _) hz).setN (b := w.heap.size) (Nat.le_refl _) hz).setN (b := w.heap.size) (Nat.le_refl _) hz).setN (b := w.heap.size) (Nat.le_refl _) hz).setN (b := w.heap.size) (Nat.le_refl _) hz).setN (b := w.heap.size) (Nat.le_refl _) hz).setN (b := w.heap.size) (Nat.le_refl _) hz)⟩

set_option maxRecDepth 10000 in
set_option maxHeartbeats 16000000 in
theorem stmt_any {w0 w : World} {q g k k1 : Nat} {L : List Tk4} (h : PZ w0 w q g L k) (t : Tr) (hk : k + 1 < L.length) (hk1 : k1 + 1 < L.length)
    (hl : ((L.getD k default).t.toList == [108, 101, 116]) = false) (ha : ((L.getD k default).t.toList == [97, 115, 115, 101, 114, 116]) = true)
    (hE : ∀ W, PZ w0 W q g L (k + 1) → Calls Tryz.prog 71 #[.pointer (some ⟨q, 0, none⟩)] W (RetE w0 W q g L k1 t)) (h1 : (L.getD k1 default).k ≠ 0) (hq : ((L.getD k1 default).t.toList == (⟨#[59]⟩ : ByteArray).toList) = true) :
    Calls Tryz.prog 75 #[.pointer (some ⟨q, 0, none⟩)] w (RetS w0 w q g L (k1 + 1) t) := by
  have cT := fun W h => take_any (w0 := w0) (w := W) (q := q) (g := g) (L := L) (k := k) h hk
  have cQ := fun W h => expect_any (w0 := w0) (w := W) (q := q) (g := g) (L := L) (k := k1) h ⟨#[59]⟩ hk1 h1 hq
  have hz := h.size
  have hlt := h.lts
  obtain ⟨d, hd⟩ : ∃ d, L.getD k default = d := ⟨_, rfl⟩
  rw [hd] at cT hl ha
  replace hd := hide hd
  have hf := fun W => fieldTk d.k d.t 0 d.p W
  clear h1 hq
  go_enter Tryz.func75, Tryz.ntmps75
  go_wp2_with fail
  refine name_calls fun W hN => ?_
  have hbW : Below w.heap.size w W := by rw [hN]; exact ((Below.refl _ _).alloc (Nat.le_refl _) _).alloc (by simp) _
  have gA : Blk W w.heap.size #[.int .i64 0, .string ⟨#[]⟩, .bool false, .int .i64 0, .int .i64 0, .int .i64 0, .int .i64 0, .int .u64 0, .string ⟨#[]⟩, .slice none 0 0, .int .i64 0, .int .i64 0, .slice none 0 0] 38 := by rw [hN]; exact (Blk.newAt rfl).alloc _
  have gB : Blk W (w.heap.size + 1) #[.int .i64 0, .string ⟨#[]⟩, .bool false, .int .i64 0, .int .i64 0, .int .i64 0, .int .i64 0, .int .u64 0, .string ⟨#[]⟩, .slice none 0 0, .int .i64 0, .int .i64 0, .slice none 0 0] 38 := by rw [hN]; exact Blk.newAt (by simp)
  clear hN
  refine (cT W (h.mono hbW)).mono ?_
  rintro e w1 ⟨rfl, p1, k1'⟩
  unfold tokV
  replace gA := k1'.typ _ _ _ gA xpSt
  replace gB := k1'.typ _ _ _ gB xpSt
  have kx := (KX.of_below hbW hz).trans k1'
  clear cT k1' hbW
  have b0 := gB.cell (j := 0) (v := .int .i64 0) rfl
  have bf := gB.free
  have gB2 := gB.set 0 (.int .i64 2)
  have gA2 := gA.other (b := w.heap.size) (c := w.heap.size + 1) (by omega) 0 (.int .i64 2)
  have p2 := p1.setN (b := w.heap.size + 1) (j := 0) (u := .int .i64 2) (by omega) (by omega) (by omega)
  have kx2 := kx.setN (b := w.heap.size + 1) (j := 0) (u := .int .i64 2) (by omega) hz
  go_wp2_with fail
  clear gA gB p1 kx b0 bf
  refine (hE _ p2).mono ?_
  rintro e w3 ⟨ev, rfl, hR, p3, k3⟩
  have hs3 : w.heap.size + 1 < w3.heap.size := by
    have h1 := gB2.lt
    have h2 := k3.below.size
    omega
  have hlo := gB2.lt
  replace gA2 := k3.typ _ _ _ gA2 xpSt
  replace gB2 := k3.typ _ _ _ gB2 xpSt
  replace kx2 := kx2.trans k3
  have hR3 : Rep w3 (fun b => w.heap.size + 1 < b) t ev := hR.imp (fun b hb _ => by omega)
  unfold evV
  clear hE k3 p2 hR
  have b6 := gB2.cell (j := 6) (v := .int .i64 0) rfl; have b7 := gB2.cell (j := 7) (v := .int .u64 0) rfl; have b8 := gB2.cell (j := 8) (v := .string ⟨#[]⟩) rfl; have b9 := gB2.cell (j := 9) (v := .slice none 0 0) rfl
  have bf := gB2.free
  have gB4 := (((gB2.set 6 (.int .i64 ev.op)).set 7 (.int .u64 ev.val)).set 8 (.string ev.nm)).set 9 (.slice ev.ad ev.n ev.c)
  have gA4 := (((gA2.other (b := w.heap.size) (c := w.heap.size + 1) (by omega) 6 (.int .i64 ev.op)).other (b := w.heap.size) (c := w.heap.size + 1) (by omega) 7 (.int .u64 ev.val)).other (b := w.heap.size) (c := w.heap.size + 1) (by omega) 8 (.string ev.nm)).other (b := w.heap.size) (c := w.heap.size + 1) (by omega) 9 (.slice ev.ad ev.n ev.c)
  have p4 := (((p3.setN (b := w.heap.size + 1) (j := 6) (u := .int .i64 ev.op) (by omega) (by omega) (by omega)).setN (b := w.heap.size + 1) (j := 7) (u := .int .u64 ev.val) (by omega) (by omega) (by omega)).setN (b := w.heap.size + 1) (j := 8) (u := .string ev.nm) (by omega) (by omega) (by omega)).setN (b := w.heap.size + 1) (j := 9) (u := .slice ev.ad ev.n ev.c) (by omega) (by omega) (by omega)
  have kx4 := (((kx2.setN (b := w.heap.size + 1) (j := 6) (u := .int .i64 ev.op) (by omega) hz).setN (b := w.heap.size + 1) (j := 7) (u := .int .u64 ev.val) (by omega) hz).setN (b := w.heap.size + 1) (j := 8) (u := .string ev.nm) (by omega) hz).setN (b := w.heap.size + 1) (j := 9) (u := .slice ev.ad ev.n ev.c) (by omega) hz
  have hn : ¬ (fun b => w.heap.size + 1 < b) (w.heap.size + 1) := Nat.lt_irrefl _
  have hR4 := (((hR3.setN (j := 6) (u := .int .i64 ev.op) hn).setN (j := 7) (u := .int .u64 ev.val) hn).setN (j := 8) (u := .string ev.nm) hn).setN (j := 9) (u := .slice ev.ad ev.n ev.c) hn
  go_wp2_with fail
  clear gA2 gB2 p3 kx2 b6 b7 b8 b9 bf hR3
  refine (cQ _ p4).mono ?_
  rintro e w5 ⟨rfl, p5, k5⟩
  replace gA4 := k5.typ _ _ _ gA4 xpSt
  replace gB4 := k5.typ _ _ _ gB4 xpSt
  replace kx4 := kx4.trans k5
  have hR5 := hR4.kx k5 xpEx
  clear cQ k5 p4 hR4
  have y0 := gB4.cell (j := 0) (v := .int .i64 2) rfl; have y1 := gB4.cell (j := 1) (v := .string ⟨#[]⟩) rfl; have y2 := gB4.cell (j := 2) (v := .bool false) rfl; have y3 := gB4.cell (j := 3) (v := .int .i64 0) rfl; have y4 := gB4.cell (j := 4) (v := .int .i64 0) rfl; have y5 := gB4.cell (j := 5) (v := .int .i64 0) rfl; have y6 := gB4.cell (j := 6) (v := .int .i64 ev.op) rfl; have y7 := gB4.cell (j := 7) (v := .int .u64 ev.val) rfl; have y8 := gB4.cell (j := 8) (v := .string ev.nm) rfl; have y9 := gB4.cell (j := 9) (v := .slice ev.ad ev.n ev.c) rfl; have y10 := gB4.cell (j := 10) (v := .int .i64 0) rfl; have y11 := gB4.cell (j := 11) (v := .int .i64 0) rfl; have y12 := gB4.cell (j := 12) (v := .slice none 0 0) rfl
  have a0 := gA4.cell (j := 0) (v := .int .i64 0) rfl; have a1 := gA4.cell (j := 1) (v := .string ⟨#[]⟩) rfl; have a2 := gA4.cell (j := 2) (v := .bool false) rfl; have a3 := gA4.cell (j := 3) (v := .int .i64 0) rfl; have a4 := gA4.cell (j := 4) (v := .int .i64 0) rfl; have a5 := gA4.cell (j := 5) (v := .int .i64 0) rfl; have a6 := gA4.cell (j := 6) (v := .int .i64 0) rfl; have a7 := gA4.cell (j := 7) (v := .int .u64 0) rfl; have a8 := gA4.cell (j := 8) (v := .string ⟨#[]⟩) rfl; have a9 := gA4.cell (j := 9) (v := .slice none 0 0) rfl; have a10 := gA4.cell (j := 10) (v := .int .i64 0) rfl; have a11 := gA4.cell (j := 11) (v := .int .i64 0) rfl; have a12 := gA4.cell (j := 12) (v := .slice none 0 0) rfl
  have af := gA4.free
  obtain ⟨W7, hW7⟩ : ∃ W7, W7 = _ := ⟨_, rfl⟩
  have hfin := st_fin hz hlt gA4 (hR5.imp (fun b hb _ => by omega : ∀ b, w.heap.size + 1 < b → b < w5.heap.size → w.heap.size < b)) p5 kx4 W7 hW7
  obtain ⟨gF, hF⟩ := hfin
  clear gA4 gB4 p5 kx4 hR5
  go_wp2
  rw [← hW7]
  clear y0 a0 y1 a1 y2 a2 y3 a3 y4 a4 y5 a5 y6 a6 y7 a7 y8 a8 y9 a9 y10 a10 y11 a11 y12 a12 af hW7
  have z0 := gF.cell (j := 0) (v := .int .i64 2) rfl; have z1 := gF.cell (j := 1) (v := .string ⟨#[]⟩) rfl; have z2 := gF.cell (j := 2) (v := .bool false) rfl; have z3 := gF.cell (j := 3) (v := .int .i64 0) rfl; have z4 := gF.cell (j := 4) (v := .int .i64 0) rfl; have z5 := gF.cell (j := 5) (v := .int .i64 0) rfl; have z6 := gF.cell (j := 6) (v := .int .i64 ev.op) rfl; have z7 := gF.cell (j := 7) (v := .int .u64 ev.val) rfl; have z8 := gF.cell (j := 8) (v := .string ev.nm) rfl; have z9 := gF.cell (j := 9) (v := .slice ev.ad ev.n ev.c) rfl; have z10 := gF.cell (j := 10) (v := .int .i64 0) rfl; have z11 := gF.cell (j := 11) (v := .int .i64 0) rfl; have z12 := gF.cell (j := 12) (v := .slice none 0 0) rfl
  exact bodyPost_ret (v := stV ev) (by simp [results, Tryz.results75, go_sem, stV, stC, z0, z1, z2, z3, z4, z5, z6, z7, z8, z9, z10, z11, z12]) rfl hF
end Go.Proofs.YtalmgeefkcebdaaGreatDoor

