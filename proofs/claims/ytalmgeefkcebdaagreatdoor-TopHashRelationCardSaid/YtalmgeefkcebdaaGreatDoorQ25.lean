/- types: declare, note, leave. -/
import Derived.Test.YtalmgeefkcebdaaGreatDoorQ24
namespace Go.Proofs.YtalmgeefkcebdaaGreatDoor
open Go.RowKit

/-- The symbol of an element. -/
def symV : Value := .agg #[.int .i64 1, .int .i64 0, .int .i64 0, .bool false, .int .i64 0, .int .i64 0]
def syL (N : List ByteArray) : List (ByteArray × Value) := N.map fun s => (s, symV)
def XCk (T : TypeId) : Prop := T = 179 ∨ T = 9
/-- A checker that has seen the names N. -/
structure CK (w0 W : World) (q f g : Nat) (N : List ByteArray) : Prop where
  blk : ∃ (oa : Option Addr) (oc : Nat), Blk W q #[.map (some f), .map (some g), .slice oa N.length oc, .int .i64 0] 179 ∧ OwnG strL W w0.heap.size 9 (.slice oa N.length oc) N
  mp : Mp W g (syL N)
  lq : w0.heap.size ≤ q
  lg : w0.heap.size ≤ g
  below : Below w0.heap.size w0 W
theorem CK.mono {w0 W W' : World} {q f g : Nat} {N : List ByteArray} (h : CK w0 W q f g N) (hb : Below W.heap.size W W') : CK w0 W' q f g N :=
  ⟨by obtain ⟨oa, oc, h1, h2⟩ := h.blk; exact ⟨oa, oc, h1.mono hb, h2.mono hb⟩, h.mp.mono hb, h.lq, h.lg, below2 h.below hb⟩
def RetCk (w0 w : World) (q f g : Nat) (N : List ByteArray) (v : Value) (e : Ending) (w' : World) : Prop := e = .returned v ∧ CK w0 w' q f g N ∧ KX XCk w0.heap.size w w'
set_option maxRecDepth 10000 in
set_option maxHeartbeats 4000000 in
theorem declare_any {w0 w : World} {q f g : Nat} {N : List ByteArray} (h : CK w0 w q f g N) (s : ByteArray) (hn : getM (syL N) s = none) (hl : N.length < 1000000) :
    Calls Tryz.prog 146 #[.pointer (some ⟨q, 0, none⟩), .string s, symV] w (RetCk w0 w q f g (N ++ [s]) (.int .i64 0)) := by
  have hz : ∀ W, (zeroValue 236).run Tryz.prog W = .ok (.agg #[.int .i64 0, .int .i64 0, .int .i64 0, .bool false, .int .i64 0, .int .i64 0]) W := fun W => by kernel_rfl
  obtain ⟨W, hW⟩ : ∃ W, W = w.alloc (.cells #[.int .i64 1, .int .i64 0, .int .i64 0, .bool false, .int .i64 0, .int .i64 0] 236) := ⟨_, rfl⟩
  have hbW : Below w.heap.size w W := by rw [hW]; exact (Below.refl _ _).alloc (Nat.le_refl _) _
  have hC := h.mono hbW
  have hlk := run_look0 (t := 176) (k := 9) (e := 236) Tryz.underlying176 Tryz.underlying9 hC.mp true (hz W) hn
  rw [if_pos rfl] at hlk
  have gX : Blk W w.heap.size #[.int .i64 1, .int .i64 0, .int .i64 0, .bool false, .int .i64 0, .int .i64 0] 236 := by rw [hW]; exact Blk.newAt rfl
  obtain ⟨oa, oc, gq, ow⟩ := hC.blk
  have q1 := gq.cell (j := 1) (v := .map (some g)) rfl
  have hmp := hC.mp
  have hlq := hC.lq
  have hlg := hC.lg
  have hbel := hC.below
  have hz0 := h.below.size
  have kx0 : KX XCk w0.heap.size w W := KX.of_below hbW hz0
  rw [hW] at hlk q1
  clear hz hC
  unfold symV
  go_enter Tryz.func146, Tryz.ntmps146
  go_wp2_with fail
  rw [← hW]
  clear hlk q1
  refine name_world fun W2 hN => ?_
  have hb2 : Below W.heap.size W W2 := by rw [hN]; exact (Below.refl _ _).alloc (Nat.le_refl _) _
  clear hN
  refine Rel.region_any Tryz.mixed fun w4 hb4 => ?_
  have hb24 := below2 hb2 hb4
  replace gq := gq.mono hb24
  replace ow := ow.mono hb24
  replace hmp := hmp.mono hb24
  replace gX := gX.mono hb24
  replace hbel := below2 hbel hb24
  replace kx0 := kx0.trans (KX.of_below hb24 (by have := hbW.size; omega))
  clear hb24 hb2 hb4 hW hbW
  refine Rel.any_held (fun W => W.cell? ⟨q, 1, none⟩ = some (.map (some g)) ∧ W.cell? ⟨w.heap.size, 0, none⟩ = some (.int .i64 1) ∧ W.cell? ⟨w.heap.size, 1, none⟩ = some (.int .i64 0) ∧ W.cell? ⟨w.heap.size, 2, none⟩ = some (.int .i64 0) ∧ W.cell? ⟨w.heap.size, 3, none⟩ = some (.bool false) ∧ W.cell? ⟨w.heap.size, 4, none⟩ = some (.int .i64 0) ∧ W.cell? ⟨w.heap.size, 5, none⟩ = some (.int .i64 0)) 6 ⟨gq.cell (j := 1) rfl, gX.cell (j := 0) rfl, gX.cell (j := 1) rfl, gX.cell (j := 2) rfl, gX.cell (j := 3) rfl, gX.cell (j := 4) rfl, gX.cell (j := 5) rfl⟩ fun hH0 => ?_
  refine Rel.tk (v := ?_) 0 ?_ ?_
  rotate_left
  · (intro W hSw; (try dsimp only at hSw); go_simp; try with_reducible rfl)
  try simp only [Act.put, List.setIfInBounds_toArray, List.set_cons_zero, List.set_cons_succ]
  refine Rel.tk (v := ?_) 1 ?_ ?_
  rotate_left
  · (intro W hSw; (try dsimp only at hSw); go_simp; try with_reducible rfl)
  try simp only [Act.put, List.setIfInBounds_toArray, List.set_cons_zero, List.set_cons_succ]
  refine Rel.tk (v := ?_) 2 ?_ ?_
  rotate_left
  · (intro W hSw; (try dsimp only at hSw); go_simp; try with_reducible rfl)
  try simp only [Act.put, List.setIfInBounds_toArray, List.set_cons_zero, List.set_cons_succ]
  refine Rel.tk (v := ?_) 3 ?_ ?_
  rotate_left
  · (intro W hSw; (try dsimp only at hSw); go_simp; try with_reducible rfl)
  try simp only [Act.put, List.setIfInBounds_toArray, List.set_cons_zero, List.set_cons_succ]
  refine Rel.tk (v := ?_) 4 ?_ ?_
  rotate_left
  · (intro W hSw; (try dsimp only at hSw); go_simp; try with_reducible rfl)
  try simp only [Act.put, List.setIfInBounds_toArray, List.set_cons_zero, List.set_cons_succ]
  refine Rel.tk (v := ?_) 5 ?_ ?_
  rotate_left
  · (intro W hSw; (try dsimp only at hSw); go_simp; try with_reducible rfl)
  try simp only [Act.put, List.setIfInBounds_toArray, List.set_cons_zero, List.set_cons_succ]
  refine Rel.heldLast 6 rfl (by kernel_rfl) rfl (by kernel_rfl) fun K hK => ?_
  refine step_put (L := syL N) Tryz.underlying176 Tryz.underlying9 rfl _ _ _ rfl symV rfl rfl rfl hmp hn fun w5 hm5 hp5 => ?_
  refine hK.out _ _ ?_
  clear hK K hH0
  have gq5 := hp5.blk gq
  have ow5 := hp5.own ow
  have gX5 := hp5.blk gX
  have hbel5 := hp5.below hbel hlg
  have kx5 : KX XCk w0.heap.size w w5 := kx0.trans (hp5.kx hlg)
  clear gq ow gX hbel kx0 hp5 hmp
  have q2 := gq5.cell (j := 2) (v := .slice oa N.length oc) rfl
  have hz5 := hbel5.size
  go_wp2_with (at_builtin; refine wpList_appG _ strL N [s] rfl _ _ 177 rfl w0.heap.size 9 (.string ⟨#[]⟩) 16 Tryz.underlying177 Tryz.infoStr rfl (by decide) _ 1 1 (some ⟨_, 0, none⟩) rfl rfl rfl (ow5.alloc _) (SlG.one (Blk.newAt rfl) rfl) (by simp; omega) (by simp; omega) ?_; intro v' w6 own6 hg6; refine Hold.mk ?_)
  have bA := (Below.refl w5.heap.size w5).alloc (Nat.le_refl _) (.cells #[.string s] 9)
  have gq6 : Blk w6 q #[.map (some f), .map (some g), .slice oa N.length oc, .int .i64 0] 179 := hg6.blk (gq5.mono bA) ((ow5.alloc _).neq (gq5.mono bA) (by decide))
  have hm6 : Mp w6 g (syL (N ++ [s])) := by
    have := (hm5.mono bA).grew (ow5.alloc _) hg6
    unfold syL at this ⊢
    rw [List.map_append]
    exact this
  have kx6 : KX XCk w0.heap.size w w6 := (kx5.trans (KX.of_below bA hz5)).trans (KX.grew (ow5.alloc _) hg6 (.inr rfl) (by have := bA.size; omega))
  have hbel6 : Below w0.heap.size w0 w6 := hg6.belowG (below2 hbel5 bA) (ow5.alloc _) (Nat.le_refl _) (by have := bA.size; omega)
  obtain ⟨va, vc, ve, _⟩ := own6.sl
  subst ve
  clear q2 gq5 ow5 hm5 kx5 hbel5 bA hg6
  refine Hold.go ?_
  have q3 := gq6.cell (j := 2) (v := .slice oa N.length oc) rfl
  have qf := gq6.free
  have nq := own6.neq gq6 (by decide)
  have hF : CK w0 (w6.setCell ⟨q, 2, none⟩ (.slice va (N.length + 1) vc)) q f g (N ++ [s]) := ⟨⟨va, vc, by rw [List.length_append]; exact gq6.set 2 _, own6.other nq _⟩, hm6.set gq6, hlq, hlg, hbel6.setCell hlq _⟩
  have kF : KX XCk w0.heap.size w (w6.setCell ⟨q, 2, none⟩ (.slice va (N.length + 1) vc)) := kx6.trans (KX.set gq6 (.inl rfl) hlq)
  clear gq6 hm6 kx6 hbel6 own6 nq
  go_wp2
  go_ret
  exact ⟨rfl, hF, kF⟩
set_option maxHeartbeats 4000000 in
theorem note_any (q : Nat) (w : World) : Calls Tryz.prog 147 #[.pointer (some ⟨q, 0, none⟩), .agg #[.int .i64 1, .int .i64 0, .int .i64 0]] w fun e w' => e = .returned (.tuple #[]) ∧ Below w.heap.size w w' := by
  go_enter Tryz.func147, Tryz.ntmps147
  go_wp2
  exact bodyPost_end (v := .tuple #[]) (by simp [results, Tryz.results147, go_sem]) rfl ⟨rfl, (Below.refl _ _).alloc (Nat.le_refl _) _⟩
set_option maxRecDepth 10000 in
set_option maxHeartbeats 4000000 in
theorem leave_any {w0 w : World} {q f g : Nat} {N : List ByteArray} (h : CK w0 w q f g N) (hl : N.length < 1000000) :
    Calls Tryz.prog 199 #[.pointer (some ⟨q, 0, none⟩), .int .i64 N.length] w (RetCk w0 w q f g N (.tuple #[])) := by
  obtain ⟨oa, oc, gq, ow⟩ := h.blk
  obtain ⟨va, vc, ve, _, hc1, hc2, hc3⟩ := ow.sl
  cases ve
  have hmp := h.mp
  have hlq := h.lq
  have hbel := h.below
  have q2 := gq.cell (j := 2) (v := .slice oa N.length oc) rfl
  have qf := gq.free
  have hF : CK w0 (w.setCell ⟨q, 2, none⟩ (.slice oa N.length oc)) q f g N := ⟨⟨oa, oc, gq.set 2 _, ow.other (ow.neq gq (by decide)) _⟩, hmp.set gq, hlq, h.lg, hbel.setCell hlq _⟩
  have kF : KX XCk w0.heap.size w (w.setCell ⟨q, 2, none⟩ (.slice oa N.length oc)) := KX.set gq (.inl rfl) hlq
  have hs : (oc : Int) ≤ 9223372036854775807 := by simp only [maxLen] at hc2; omega
  obtain ⟨n, hn⟩ : ∃ n, N.length = n := ⟨_, rfl⟩
  rw [hn] at q2 hF kF hc1 hl ⊢
  replace hn := hide hn
  have hnn : n - n = 0 := Nat.sub_self n
  clear hmp hbel ow h gq hlq hc3
  rcases Nat.eq_or_lt_of_le hc1 with hoc | hoc
  · subst hoc
    go_enter Tryz.func199, Tryz.ntmps199
    go_wp2_with fail
    go_loopw [13] (fun t13 wr => t13 = .int .i64 0 ∧ wr = w) (fun _ _ => 0)
    case atStart => exact ⟨rfl, rfl⟩
    case round =>
      obtain ⟨rfl, rfl⟩ := hrel
      go_wp2
      exact bodyPost_end (v := .tuple #[]) (by simp [results, Tryz.results199, go_sem]) rfl ⟨rfl, hF, kF⟩
  · have hne : ¬ oc = n := by omega
    go_enter Tryz.func199, Tryz.ntmps199
    go_wp2_with fail
    go_loopw [13] (fun t13 wr => t13 = .int .i64 0 ∧ wr = w) (fun _ _ => 0)
    case atStart => exact ⟨rfl, rfl⟩
    case round =>
      obtain ⟨rfl, rfl⟩ := hrel
      go_wp2
      exact bodyPost_end (v := .tuple #[]) (by simp [results, Tryz.results199, go_sem]) rfl ⟨rfl, hF, kF⟩

theorem tscalar_any (k : Int) (w : World) : Calls Tryz.prog 216 #[.int .i64 k] w fun e w' => e = .returned (.agg #[.int .i64 k, .int .i64 0, .int .i64 0]) ∧ Below w.heap.size w w' := by
  have gF := Blk.new w #[.int .i64 k, .int .i64 0, .int .i64 0] 32
  have z0 := gF.cell (j := 0) (v := .int .i64 k) rfl; have z1 := gF.cell (j := 1) (v := .int .i64 0) rfl; have z2 := gF.cell (j := 2) (v := .int .i64 0) rfl
  have hB : Below w.heap.size w (w.alloc (.cells #[.int .i64 k, .int .i64 0, .int .i64 0] 32)) := (Below.refl _ _).alloc (Nat.le_refl _) _
  clear gF
  go_enter Tryz.func216, Tryz.ntmps216
  go_wp2
  exact bodyPost_ret (v := .agg #[.int .i64 k, .int .i64 0, .int .i64 0]) (by simp [results, Tryz.results216, go_sem, z0, z1, z2]) rfl ⟨rfl, hB⟩
theorem isScalar_any (k : Int) (w : World) : Calls Tryz.prog 221 #[.agg #[.int .i64 k, .int .i64 0, .int .i64 0]] w fun e w' => e = .returned (.bool true) ∧ Below w.heap.size w w' := by
  go_enter Tryz.func221, Tryz.ntmps221
  go_wp2
  go_ret
  exact ⟨rfl, (Below.refl _ _).alloc (Nat.le_refl _) _⟩
set_option maxRecDepth 10000 in
set_option maxHeartbeats 4000000 in
theorem all2_any (w : World) (b : Nat) (k0 k1 k : Int) (g : Blk w b #[.int .i64 k0, .int .i64 0, .int .i64 0, .int .i64 k1, .int .i64 0, .int .i64 0] 32) :
    Calls Tryz.prog 220 #[.slice (some ⟨b, 0, none⟩) 2 2, .func (.func 221) #[] #[], .agg #[.int .i64 k, .int .i64 0, .int .i64 0]] w fun e w' => e = .returned (.tuple #[.agg #[.int .i64 k, .int .i64 0, .int .i64 0], .int .i64 0]) ∧ Below w.heap.size w w' := by
  go_enter Tryz.func220, Tryz.ntmps220
  go_wp2_with fail
  refine name_world fun W hN => ?_
  have hB : Below w.heap.size w W := by rw [hN]; exact ((Below.refl _ _).alloc (Nat.le_refl _) _).alloc (by simp) _
  have gR : Blk W w.heap.size #[.int .i64 k, .int .i64 0, .int .i64 0] 32 := by rw [hN]; exact (Blk.newAt rfl).alloc _
  have gZ : Blk W (w.heap.size + 1) #[.int .i64 0, .int .i64 0, .int .i64 0] 32 := by rw [hN]; exact Blk.newAt (by simp)
  clear hN
  replace g := g.mono hB
  go_loopw [12] (fun t12 wr => ∃ i : Nat, i ≤ 2 ∧ t12 = .int .i64 i ∧ Below W.heap.size W wr) (fun t12 _ => 2 - (intOf t12).toNat)
  case atStart => exact ⟨0, by omega, rfl, Below.refl _ _⟩
  case round =>
    obtain ⟨i, hi, rfl, hb⟩ := hrel
    have g' := g.mono hb
    rcases (show i = 0 ∨ i = 1 ∨ i = 2 by omega) with rfl | rfl | rfl
    · have c0 := g'.cell (j := 0) (v := .int .i64 k0) rfl; have c1 := g'.cell (j := 1) (v := .int .i64 0) rfl; have c2 := g'.cell (j := 2) (v := .int .i64 0) rfl
      have hB1 : Below W.heap.size W (wr.alloc (.cells #[.int .i64 k0, .int .i64 0, .int .i64 0] 32)) := hb.alloc hb.size _
      go_wp2_with fail
      refine (isScalar_any k0 _).mono ?_
      rintro e w2 ⟨rfl, hb2⟩
      have hB2 := below2 hB1 hb2
      clear c0 c1 c2 g'
      go_wp2
      go_roundw
      case rel => exact ⟨1, by omega, rfl, hB2⟩
      case measure => simp [intOf]
    · have c0 := g'.cell (j := 3) (v := .int .i64 k1) rfl; have c1 := g'.cell (j := 4) (v := .int .i64 0) rfl; have c2 := g'.cell (j := 5) (v := .int .i64 0) rfl
      have hB1 : Below W.heap.size W (wr.alloc (.cells #[.int .i64 k1, .int .i64 0, .int .i64 0] 32)) := hb.alloc hb.size _
      go_wp2_with fail
      refine (isScalar_any k1 _).mono ?_
      rintro e w2 ⟨rfl, hb2⟩
      have hB2 := below2 hB1 hb2
      clear c0 c1 c2 g'
      go_wp2
      go_roundw
      case rel => exact ⟨2, by omega, rfl, hB2⟩
      case measure => simp [intOf]
    · have r0 := (gR.mono hb).cell (j := 0) (v := .int .i64 k) rfl; have r1 := (gR.mono hb).cell (j := 1) (v := .int .i64 0) rfl; have r2 := (gR.mono hb).cell (j := 2) (v := .int .i64 0) rfl
      have y0 := (gZ.mono hb).cell (j := 0) (v := .int .i64 0) rfl; have y1 := (gZ.mono hb).cell (j := 1) (v := .int .i64 0) rfl; have y2 := (gZ.mono hb).cell (j := 2) (v := .int .i64 0) rfl
      have zf := (gZ.mono hb).free
      have gF := (((gZ.mono hb).set 0 (.int .i64 k)).set 1 (.int .i64 0)).set 2 (.int .i64 0)
      have z0 := gF.cell (j := 0) (v := .int .i64 k) rfl; have z1 := gF.cell (j := 1) (v := .int .i64 0) rfl; have z2 := gF.cell (j := 2) (v := .int .i64 0) rfl
      have hF : Below w.heap.size w (((wr.setCell ⟨w.heap.size + 1, 0, none⟩ (.int .i64 k)).setCell ⟨w.heap.size + 1, 1, none⟩ (.int .i64 0)).setCell ⟨w.heap.size + 1, 2, none⟩ (.int .i64 0)) :=
        (((below2 hB hb).setCell (show w.heap.size ≤ w.heap.size + 1 by omega) _).setCell (show w.heap.size ≤ w.heap.size + 1 by omega) _).setCell (show w.heap.size ≤ w.heap.size + 1 by omega) _
      clear g g' gR gZ gF
      go_wp2
      exact bodyPost_ret (v := .tuple #[.agg #[.int .i64 k, .int .i64 0, .int .i64 0], .int .i64 0]) (by simp [results, Tryz.results220, go_sem, z0, z1, z2]) rfl ⟨rfl, hF⟩
/-- The kind of an expression. -/
def Tr.kind : Tr → Int
  | .nm _ => 1
  | .bin op _ _ _ => if op = 14 then 2 else 1
/-- All its names are there. -/
def Tr.inn (N : List ByteArray) : Tr → Prop
  | .nm s => getM (syL N) s = some symV
  | .bin op val l r => (op = 6 ∧ val < 65536 ∨ op = 11 ∨ op = 14) ∧ l.inn N ∧ r.inn N
def RetTy (w : World) (k : Int) (e : Ending) (w' : World) : Prop := e = .returned (.tuple #[.agg #[.int .i64 k, .int .i64 0, .int .i64 0], .int .i64 0]) ∧ Below w.heap.size w w'
def tyL : Lay Int := ⟨fun k => [.int .i64 k, .int .i64 0, .int .i64 0], 3, fun _ => rfl, by decide, fun x u hu => by simp at hu; rcases hu with rfl | rfl <;> rfl⟩
theorem Tryz.infoTy : (Tryz.prog.info? 32).map (fun i => (i.zero, i.size, i.bytes)) = some (some (.agg #[.int .i64 0, .int .i64 0, .int .i64 0]), 3, 24) := by kernel_rfl
theorem mkTy0 (W : World) : (Instr.makeSlice 292 (.int .i64 0) (.int .i64 0)).run Tryz.prog W = .ok (.slice (some ⟨W.heap.size, 0, none⟩) 0 0) (W.alloc (.cells #[] 32)) := by
  have h := run_mkG tyL (P := Tryz.prog) (t := 292) (e := 32) Tryz.underlying292 Tryz.infoTy (by decide) (N := 0) (C := 0) 0 0 rfl rfl (Nat.le_refl _) (by omega) W
  rw [show madeCells (Value.agg #[.int .i64 0, .int .i64 0, .int .i64 0]).cells (0 * tyL.m) = #[] from by kernel_rfl] at h
  exact h
theorem mkTy2 (W : World) : (Instr.makeSlice 292 (.int .i64 2) (.int .i64 2)).run Tryz.prog W = .ok (.slice (some ⟨W.heap.size, 0, none⟩) 2 2) (W.alloc (.cells #[.int .i64 0, .int .i64 0, .int .i64 0, .int .i64 0, .int .i64 0, .int .i64 0] 32)) := by
  have h := run_mkG tyL (P := Tryz.prog) (t := 292) (e := 32) Tryz.underlying292 Tryz.infoTy (by decide) (N := 2) (C := 2) 2 2 rfl rfl (Nat.le_refl _) (by omega) W
  rw [show madeCells (Value.agg #[.int .i64 0, .int .i64 0, .int .i64 0]).cells (2 * tyL.m) = #[.int .i64 0, .int .i64 0, .int .i64 0, .int .i64 0, .int .i64 0, .int .i64 0] from by kernel_rfl] at h
  exact h
set_option maxRecDepth 10000 in
set_option maxHeartbeats 16000000 in
theorem texpr_nm (s : ByteArray) (w : World) (q f g : Nat) (O : Value) (N : List ByteArray) (gq : Blk w q #[.map (some f), .map (some g), O, .int .i64 0] 179) (hm : Mp w g (syL N)) (hs : getM (syL N) s = some symV) :
    Calls Tryz.prog 197 #[.pointer (some ⟨q, 0, none⟩), evV ⟨2, 0, s, none, 0, 0⟩] w (RetTy w 1) := by
  have m0 := mkTy0
  unfold evV
  go_enter Tryz.func197, Tryz.ntmps197
  go_wp2_with fail
  refine name_world fun W hN => ?_
  have hB : Below w.heap.size w W := by rw [hN]; exact (((Below.refl _ _).alloc (Nat.le_refl _) _).alloc (by simp) _).alloc (by simp; omega) _
  have gA : Blk W w.heap.size #[.int .i64 2, .int .u64 0, .string s, .slice none 0 0] 29 := by rw [hN]; exact ((Blk.newAt rfl).alloc _).alloc _
  have gZ : Blk W (w.heap.size + 1) #[.int .i64 0, .int .i64 0, .int .i64 0] 32 := by rw [hN]; exact (Blk.newAt (by simp)).alloc _
  clear hN m0
  replace gq := gq.mono hB
  replace hm := hm.mono hB
  go_loopw [28] (fun t28 wr => t28 = .int .i64 0 ∧ wr = W) (fun _ _ => 0)
  case atStart => exact ⟨rfl, rfl⟩
  case round =>
    obtain ⟨rfl, rfl⟩ := hrel
    have a0 := gA.cell (j := 0) (v := .int .i64 2) rfl
    go_wp2_with fail
    refine Rel.region_any Tryz.mixed fun w4 hb4 => ?_
    replace gq := gq.mono hb4
    replace hm := hm.mono hb4
    replace gA := gA.mono hb4
    replace gZ := gZ.mono hb4
    replace hB := below2 hB hb4
    clear a0 hb4
    have hlk := fun W (h : Mp W g (syL N)) => run_look (t := 176) (k := 9) (e := 236) (P := Tryz.prog) Tryz.underlying176 Tryz.underlying9 h true hs
    refine Rel.any_held (fun W => W.cell? ⟨q, 1, none⟩ = some (.map (some g)) ∧ W.cell? ⟨w.heap.size, 2, none⟩ = some (.string s) ∧ (Instr.lookup 176 (.map (some g)) (.string s) true).run Tryz.prog W = .ok (.tuple #[.agg #[.int .i64 1, .int .i64 0, .int .i64 0, .bool false, .int .i64 0, .int .i64 0], .bool true]) W) 12 ⟨gq.cell (j := 1) rfl, gA.cell (j := 2) rfl, hlk _ hm⟩ fun hH0 => ?_
    refine Rel.tk (v := ?_) 0 ?_ ?_
    rotate_left
    · (intro W hSw; (try dsimp only at hSw); go_simp; try with_reducible rfl)
    try simp only [Act.put, List.setIfInBounds_toArray, List.set_cons_zero, List.set_cons_succ]
    refine Rel.tk (v := ?_) 1 ?_ ?_
    rotate_left
    · (intro W hSw; (try dsimp only at hSw); go_simp; try with_reducible rfl)
    try simp only [Act.put, List.setIfInBounds_toArray, List.set_cons_zero, List.set_cons_succ]
    refine Rel.tk (v := ?_) 2 ?_ ?_
    rotate_left
    · (intro W hSw; (try dsimp only at hSw); go_simp; try with_reducible rfl)
    try simp only [Act.put, List.setIfInBounds_toArray, List.set_cons_zero, List.set_cons_succ]
    refine Rel.tk (v := ?_) 3 ?_ ?_
    rotate_left
    · (intro W hSw; (try dsimp only at hSw); go_simp; try with_reducible rfl)
    try simp only [Act.put, List.setIfInBounds_toArray, List.set_cons_zero, List.set_cons_succ]
    refine Rel.tk (v := ?_) 4 ?_ ?_
    rotate_left
    · (intro W hSw; (try dsimp only at hSw); go_simp; try with_reducible rfl)
    try simp only [Act.put, List.setIfInBounds_toArray, List.set_cons_zero, List.set_cons_succ]
    refine Rel.tk (v := ?_) 5 ?_ ?_
    rotate_left
    · (intro W hSw; (try dsimp only at hSw); go_simp; try with_reducible rfl)
    try simp only [Act.put, List.setIfInBounds_toArray, List.set_cons_zero, List.set_cons_succ]
    refine Rel.tk (v := ?_) 6 ?_ ?_
    rotate_left
    · (intro W hSw; (try dsimp only at hSw); go_simp; try with_reducible rfl)
    try simp only [Act.put, List.setIfInBounds_toArray, List.set_cons_zero, List.set_cons_succ]
    refine Rel.tk (v := ?_) 7 ?_ ?_
    rotate_left
    · (intro W hSw; (try dsimp only at hSw); go_simp; try with_reducible rfl)
    try simp only [Act.put, List.setIfInBounds_toArray, List.set_cons_zero, List.set_cons_succ]
    refine Rel.tk (v := ?_) 8 ?_ ?_
    rotate_left
    · (intro W hSw; (try dsimp only at hSw); go_simp; try with_reducible rfl)
    try simp only [Act.put, List.setIfInBounds_toArray, List.set_cons_zero, List.set_cons_succ]
    refine Rel.tk (v := ?_) 9 ?_ ?_
    rotate_left
    · (intro W hSw; (try dsimp only at hSw); go_simp; try with_reducible rfl)
    try simp only [Act.put, List.setIfInBounds_toArray, List.set_cons_zero, List.set_cons_succ]
    refine Rel.heldNext 10 rfl (by kernel_rfl) fun K hK => ?_
    go_simp
    have bA := (Below.refl w4.heap.size w4).alloc (Nat.le_refl _) (.cells #[.int .i64 0, .int .i64 0, .int .i64 0, .bool false, .int .i64 0, .int .i64 0] 236)
    have gS : Blk (w4.alloc (.cells #[.int .i64 0, .int .i64 0, .int .i64 0, .bool false, .int .i64 0, .int .i64 0] 236)) w4.heap.size #[.int .i64 0, .int .i64 0, .int .i64 0, .bool false, .int .i64 0, .int .i64 0] 236 := Blk.new _ _ _
    have gqlt := gq.lt
    have hmlt := hm.lt
    replace gq := gq.mono bA
    replace hm := hm.mono bA
    replace gA := gA.mono bA
    have h4z := gZ.lt
    have h4q := gqlt
    have h4m := hmlt
    replace gZ := gZ.mono bA
    have h4 := hB.size
    replace hB := below2 hB bA
    clear bA
    obtain ⟨w5, hw5⟩ : ∃ w5, w4.alloc (.cells #[.int .i64 0, .int .i64 0, .int .i64 0, .bool false, .int .i64 0, .int .i64 0] 236) = w5 := ⟨_, rfl⟩
    rw [hw5] at gS gq hm gA gZ hB ⊢
    refine hK.out _ _ ⟨gq.cell (j := 1) rfl, gA.cell (j := 2) rfl, hlk _ hm⟩ (fun hH1 => ?_)
    clear hK K
    try simp only [Act.put, List.setIfInBounds_toArray, List.set_cons_zero, List.set_cons_succ]
    refine Rel.heldNext 11 rfl (by kernel_rfl) fun K hK => ?_
    have y0 := gS.cell (j := 0) (v := .int .i64 0) rfl; have y1 := gS.cell (j := 1) (v := .int .i64 0) rfl; have y2 := gS.cell (j := 2) (v := .int .i64 0) rfl; have y3 := gS.cell (j := 3) (v := .bool false) rfl; have y4 := gS.cell (j := 4) (v := .int .i64 0) rfl; have y5 := gS.cell (j := 5) (v := .int .i64 0) rfl
    have yf := gS.free
    have lq := gq.lt; have lA := gA.lt; have lZ := gZ.lt
    have h0w : w.heap.size + 1 < w4.heap.size := by omega
    obtain ⟨w6, hw6⟩ : ∃ w6, w6 = ((((((w5).setCell ⟨w4.heap.size, 0, none⟩ (.int .i64 1)).setCell ⟨w4.heap.size, 1, none⟩ (.int .i64 0)).setCell ⟨w4.heap.size, 2, none⟩ (.int .i64 0)).setCell ⟨w4.heap.size, 3, none⟩ (.bool false)).setCell ⟨w4.heap.size, 4, none⟩ (.int .i64 0)).setCell ⟨w4.heap.size, 5, none⟩ (.int .i64 0) := ⟨_, rfl⟩
    have gS6 : Blk w6 w4.heap.size #[.int .i64 1, .int .i64 0, .int .i64 0, .bool false, .int .i64 0, .int .i64 0] 236 := by rw [hw6]; exact ((((((gS).set 0 (.int .i64 1)).set 1 (.int .i64 0)).set 2 (.int .i64 0)).set 3 (.bool false)).set 4 (.int .i64 0)).set 5 (.int .i64 0)
    have gZ6 : Blk w6 (w.heap.size + 1) #[.int .i64 0, .int .i64 0, .int .i64 0] 32 := by rw [hw6]; exact (((((gZ).other (by omega) _ _).other (by omega) _ _).other (by omega) _ _).other (by omega) _ _).other (by omega) _ _ |>.other (by omega) _ _
    have gq6 : Blk w6 q #[.map (some f), .map (some g), O, .int .i64 0] 179 := by rw [hw6]; exact (((((gq).other (by omega) _ _).other (by omega) _ _).other (by omega) _ _).other (by omega) _ _).other (by omega) _ _ |>.other (by omega) _ _
    have gA6 : Blk w6 w.heap.size #[.int .i64 2, .int .u64 0, .string s, .slice none 0 0] 29 := by rw [hw6]; exact (((((gA).other (by omega) _ _).other (by omega) _ _).other (by omega) _ _).other (by omega) _ _).other (by omega) _ _ |>.other (by omega) _ _
    have hm6 : Mp w6 g (syL N) := by rw [hw6]; exact ((((((hm).setC (by omega)).setC (by omega)).setC (by omega)).setC (by omega)).setC (by omega)).setC (by omega)
    have hB6 : Below w.heap.size w w6 := by
      rw [hw6]
      exact (((((hB.setCell (show w.heap.size ≤ w4.heap.size by omega) _).setCell (show w.heap.size ≤ w4.heap.size by omega) _).setCell (show w.heap.size ≤ w4.heap.size by omega) _).setCell (show w.heap.size ≤ w4.heap.size by omega) _).setCell (show w.heap.size ≤ w4.heap.size by omega) _).setCell (show w.heap.size ≤ w4.heap.size by omega) _
    go_simp
    rw [← hw6]
    clear y0 y1 y2 y3 y4 y5 yf hw6 gS gZ hB gA gq hm
    refine hK.out _ _ ⟨gq6.cell (j := 1) rfl, gA6.cell (j := 2) rfl, hlk _ hm6⟩ (fun hH2 => ?_)
    clear hK K
    try simp only [Act.put, List.setIfInBounds_toArray, List.set_cons_zero, List.set_cons_succ]
    refine Rel.heldLast 12 rfl (by kernel_rfl) rfl (by kernel_rfl) fun K hK => ?_
    go_simp
    refine hK.out _ _ ?_
    clear hK K hH0 hH1 hH2 hw5 hlk gq6 gA6 hm6
    have y0 := gS6.cell (j := 0) (v := .int .i64 1) rfl; have y1 := gS6.cell (j := 1) (v := .int .i64 0) rfl; have y2 := gS6.cell (j := 2) (v := .int .i64 0) rfl
    have x0 := gZ6.cell (j := 0) (v := .int .i64 0) rfl; have x1 := gZ6.cell (j := 1) (v := .int .i64 0) rfl; have x2 := gZ6.cell (j := 2) (v := .int .i64 0) rfl
    have xf := gZ6.free
    obtain ⟨w7, hw7⟩ : ∃ w7, w7 = (((w6).setCell ⟨w.heap.size + 1, 0, none⟩ (.int .i64 1)).setCell ⟨w.heap.size + 1, 1, none⟩ (.int .i64 0)).setCell ⟨w.heap.size + 1, 2, none⟩ (.int .i64 0) := ⟨_, rfl⟩
    have gF : Blk w7 (w.heap.size + 1) #[.int .i64 1, .int .i64 0, .int .i64 0] 32 := by rw [hw7]; exact ((gZ6.set 0 (.int .i64 1)).set 1 (.int .i64 0)).set 2 (.int .i64 0)
    have hB7 : Below w.heap.size w w7 := by
      rw [hw7]
      exact ((hB6.setCell (show w.heap.size ≤ w.heap.size + 1 by omega) _).setCell (show w.heap.size ≤ w.heap.size + 1 by omega) _).setCell (show w.heap.size ≤ w.heap.size + 1 by omega) _
    have z0 := gF.cell (j := 0) (v := .int .i64 1) rfl; have z1 := gF.cell (j := 1) (v := .int .i64 0) rfl; have z2 := gF.cell (j := 2) (v := .int .i64 0) rfl
    clear gS6 gZ6 hB6 gF
    go_wp2
    rw [← hw7]
    exact bodyPost_ret (v := .tuple #[.agg #[.int .i64 1, .int .i64 0, .int .i64 0], .int .i64 0]) (by simp [results, Tryz.results197, go_sem, z0, z1, z2]) rfl ⟨rfl, hB7⟩
/-- The types of two operands, behind i of them. -/
structure TyS (w wr : World) (op val : Int) (b i : Nat) (kx ky : Int) : Prop where
  a : Blk wr w.heap.size #[.int .i64 op, .int .u64 val, .string ⟨#[]⟩, .slice (some ⟨b, 0, none⟩) 2 2] 29
  z : Blk wr (w.heap.size + 1) #[.int .i64 0, .int .i64 0, .int .i64 0] 32
  t : Blk wr (w.heap.size + 1 + 1) #[.int .i64 (if 0 < i then kx else 0), .int .i64 0, .int .i64 0, .int .i64 (if 1 < i then ky else 0), .int .i64 0, .int .i64 0] 32
  b : Below w.heap.size w wr
theorem TyS.mono {w wr w' : World} {op val : Int} {b i : Nat} {kx ky : Int} (h : TyS w wr op val b i kx ky) (hb : Below wr.heap.size wr w') : TyS w w' op val b i kx ky := ⟨h.a.mono hb, h.z.mono hb, h.t.mono hb, below2 h.b hb⟩
set_option maxRecDepth 10000 in
set_option maxHeartbeats 64000000 in
theorem texpr_bin (op val : Int) (hop : op = 6 ∧ val < 65536 ∨ op = 11 ∨ op = 14) (b : Nat) (x y : Ev) (kx ky : Int) (w : World) (q : Nat)
    (g : Blk w b #[.int .i64 x.op, .int .u64 x.val, .string x.nm, .slice x.ad x.n x.c, .int .i64 y.op, .int .u64 y.val, .string y.nm, .slice y.ad y.n y.c] 29)
    (cX : ∀ W, Below w.heap.size w W → Calls Tryz.prog 197 #[.pointer (some ⟨q, 0, none⟩), evV x] W (RetTy W kx)) (cY : ∀ W, Below w.heap.size w W → Calls Tryz.prog 197 #[.pointer (some ⟨q, 0, none⟩), evV y] W (RetTy W ky)) :
    Calls Tryz.prog 197 #[.pointer (some ⟨q, 0, none⟩), evV ⟨op, val, ⟨#[]⟩, some ⟨b, 0, none⟩, 2, 2⟩] w (RetTy w (if op = 14 then 2 else 1)) := by
  have m2 := mkTy2
  have hop8 : (op == 8) = false := beq_eq_false_iff_ne.2 (by omega)
  replace hop := hide hop
  obtain ⟨kr, hkr⟩ : ∃ kr : Int, (if op = 14 then 2 else 1) = kr := ⟨_, rfl⟩
  rw [hkr]
  replace hkr := hide hkr
  unfold evV at *
  go_enter Tryz.func197, Tryz.ntmps197
  go_wp2_with fail
  refine name_world fun W hN => ?_
  have hB : Below w.heap.size w W := by rw [hN]; exact (((Below.refl _ _).alloc (Nat.le_refl _) _).alloc (by simp) _).alloc (by simp; omega) _
  have gA : Blk W w.heap.size #[.int .i64 op, .int .u64 val, .string ⟨#[]⟩, .slice (some ⟨b, 0, none⟩) 2 2] 29 := by rw [hN]; exact ((Blk.newAt rfl).alloc _).alloc _
  have gZ : Blk W (w.heap.size + 1) #[.int .i64 0, .int .i64 0, .int .i64 0] 32 := by rw [hN]; exact (Blk.newAt (by simp)).alloc _
  have gT : Blk W (w.heap.size + 1 + 1) #[.int .i64 0, .int .i64 0, .int .i64 0, .int .i64 0, .int .i64 0, .int .i64 0] 32 := by rw [hN]; exact Blk.newAt (by simp)
  have S0 : TyS w W op val b 0 kx ky := ⟨gA, gZ, gT, hB⟩
  clear hN m2 gA gZ gT hB
  go_loopw [28] (fun t28 wr => ∃ i : Nat, i ≤ 2 ∧ t28 = .int .i64 i ∧ TyS w wr op val b i kx ky) (fun t28 _ => 2 - (intOf t28).toNat)
  case atStart => exact ⟨0, by omega, rfl, S0⟩
  case round =>
    clear S0
    obtain ⟨i, hi, rfl, S⟩ := hrel
    have g' := g.mono S.b
    have hb := S.b
    rcases (show i = 0 ∨ i = 1 ∨ i = 2 by omega) with rfl | rfl | rfl
    · have c0 := g'.cell (j := 0) (v := .int .i64 x.op) rfl; have c1 := g'.cell (j := 1) (v := .int .u64 x.val) rfl; have c2 := g'.cell (j := 2) (v := .string x.nm) rfl; have c3 := g'.cell (j := 3) (v := .slice x.ad x.n x.c) rfl
      have hb1 : Below wr.heap.size wr (wr.alloc (.cells #[.int .i64 x.op, .int .u64 x.val, .string x.nm, .slice x.ad x.n x.c] 29)) := (Below.refl _ _).alloc (Nat.le_refl _) _
      go_wp2_with fail
      refine (cX _ (below2 hb hb1)).mono ?_
      rintro e w2 ⟨rfl, hb2⟩
      have hb12 := below2 hb1 hb2
      clear c0 c1 c2 c3 g' hb1 hb2
      have S2 := (S.mono hb12).mono ((Below.refl w2.heap.size w2).alloc (Nat.le_refl _) (.cells #[.int .i64 kx, .int .i64 0, .int .i64 0] 32))
      clear S hb12 hb
      have t0 := S2.t.cell (j := 0) (v := .int .i64 0) rfl; have t1 := S2.t.cell (j := 1) (v := .int .i64 0) rfl; have t2 := S2.t.cell (j := 2) (v := .int .i64 0) rfl
      have tf := S2.t.free
      obtain ⟨W7, hW7⟩ : ∃ W7, W7 = (((w2.alloc (.cells #[.int .i64 kx, .int .i64 0, .int .i64 0] 32)).setCell ⟨w.heap.size + 1 + 1, 0, none⟩ (.int .i64 kx)).setCell ⟨w.heap.size + 1 + 1, 1, none⟩ (.int .i64 0)).setCell ⟨w.heap.size + 1 + 1, 2, none⟩ (.int .i64 0) := ⟨_, rfl⟩
      have S7 : TyS w W7 op val b 1 kx ky := by
        rw [hW7]
        have hle : w.heap.size ≤ w.heap.size + 1 + 1 := by omega
        exact ⟨((S2.a.other (by omega) _ _).other (by omega) _ _).other (by omega) _ _, ((S2.z.other (by omega) _ _).other (by omega) _ _).other (by omega) _ _, ((S2.t.set 0 (.int .i64 kx)).set 1 (.int .i64 0)).set 2 (.int .i64 0), ((S2.b.setCell hle _).setCell hle _).setCell hle _⟩
      clear S2
      rw [hW7] at S7
      clear hW7
      go_wp2
      go_roundw
      case rel => exact ⟨1, by omega, rfl, S7⟩
      case measure => simp [intOf]
    · have c0 := g'.cell (j := 4) (v := .int .i64 y.op) rfl; have c1 := g'.cell (j := 5) (v := .int .u64 y.val) rfl; have c2 := g'.cell (j := 6) (v := .string y.nm) rfl; have c3 := g'.cell (j := 7) (v := .slice y.ad y.n y.c) rfl
      have hb1 : Below wr.heap.size wr (wr.alloc (.cells #[.int .i64 y.op, .int .u64 y.val, .string y.nm, .slice y.ad y.n y.c] 29)) := (Below.refl _ _).alloc (Nat.le_refl _) _
      go_wp2_with fail
      refine (cY _ (below2 hb hb1)).mono ?_
      rintro e w2 ⟨rfl, hb2⟩
      have hb12 := below2 hb1 hb2
      clear c0 c1 c2 c3 g' hb1 hb2
      have S2 := (S.mono hb12).mono ((Below.refl w2.heap.size w2).alloc (Nat.le_refl _) (.cells #[.int .i64 ky, .int .i64 0, .int .i64 0] 32))
      clear S hb12 hb
      have t0 := S2.t.cell (j := 3) (v := .int .i64 0) rfl; have t1 := S2.t.cell (j := 4) (v := .int .i64 0) rfl; have t2 := S2.t.cell (j := 5) (v := .int .i64 0) rfl
      have tf := S2.t.free
      obtain ⟨W7, hW7⟩ : ∃ W7, W7 = (((w2.alloc (.cells #[.int .i64 ky, .int .i64 0, .int .i64 0] 32)).setCell ⟨w.heap.size + 1 + 1, 3, none⟩ (.int .i64 ky)).setCell ⟨w.heap.size + 1 + 1, 4, none⟩ (.int .i64 0)).setCell ⟨w.heap.size + 1 + 1, 5, none⟩ (.int .i64 0) := ⟨_, rfl⟩
      have S7 : TyS w W7 op val b 2 kx ky := by
        rw [hW7]
        have hle : w.heap.size ≤ w.heap.size + 1 + 1 := by omega
        exact ⟨((S2.a.other (by omega) _ _).other (by omega) _ _).other (by omega) _ _, ((S2.z.other (by omega) _ _).other (by omega) _ _).other (by omega) _ _, ((S2.t.set 3 (.int .i64 ky)).set 4 (.int .i64 0)).set 5 (.int .i64 0), ((S2.b.setCell hle _).setCell hle _).setCell hle _⟩
      clear S2
      rw [hW7] at S7
      clear hW7
      go_wp2
      go_roundw
      case rel => exact ⟨2, by omega, rfl, S7⟩
      case measure => simp [intOf]
    · have a0 := S.a.cell (j := 0) (v := .int .i64 op) rfl
      have a1 := S.a.cell (j := 1) (v := .int .u64 val) rfl
      clear g' g cX cY hb
      rcases hop.out with ⟨rfl, hval⟩ | rfl | rfl
      · have hval2 : ¬ (65536 : Int) ≤ val := by omega
        obtain rfl : (1 : Int) = kr := hkr.out
        clear hop hkr
        go_wp2_with fail
        refine (tscalar_any 1 wr).mono ?_
        rintro e w1 ⟨rfl, hb1⟩
        have S1 := S.mono hb1
        clear a0 a1 S hb1
        go_wp2_with fail
        refine (all2_any w1 _ kx ky 1 S1.t).mono ?_
        rintro e w2 ⟨rfl, hb2⟩
        have S2 := S1.mono hb2
        clear S1 hb2
        have x0 := S2.z.cell (j := 0) (v := .int .i64 0) rfl; have x1 := S2.z.cell (j := 1) (v := .int .i64 0) rfl; have x2 := S2.z.cell (j := 2) (v := .int .i64 0) rfl
        have xf := S2.z.free
        obtain ⟨W7, hW7⟩ : ∃ W7, W7 = ((w2.setCell ⟨w.heap.size + 1, 0, none⟩ (.int .i64 1)).setCell ⟨w.heap.size + 1, 1, none⟩ (.int .i64 0)).setCell ⟨w.heap.size + 1, 2, none⟩ (.int .i64 0) := ⟨_, rfl⟩
        have gF : Blk W7 (w.heap.size + 1) #[.int .i64 1, .int .i64 0, .int .i64 0] 32 := by rw [hW7]; exact ((S2.z.set 0 (.int .i64 1)).set 1 (.int .i64 0)).set 2 (.int .i64 0)
        have hB7 : Below w.heap.size w W7 := by
          rw [hW7]
          have hle : w.heap.size ≤ w.heap.size + 1 := by omega
          exact ((S2.b.setCell hle _).setCell hle _).setCell hle _
        have z0 := gF.cell (j := 0) (v := .int .i64 1) rfl; have z1 := gF.cell (j := 1) (v := .int .i64 0) rfl; have z2 := gF.cell (j := 2) (v := .int .i64 0) rfl
        clear S2 gF
        go_wp2
        rw [← hW7]
        exact bodyPost_ret (v := .tuple #[.agg #[.int .i64 1, .int .i64 0, .int .i64 0], .int .i64 0]) (by simp [results, Tryz.results197, go_sem, z0, z1, z2]) rfl ⟨rfl, hB7⟩
      · obtain rfl : (1 : Int) = kr := hkr.out
        clear hop hkr
        go_wp2_with fail
        refine (tscalar_any 1 wr).mono ?_
        rintro e w1 ⟨rfl, hb1⟩
        have S1 := S.mono hb1
        clear a0 a1 S hb1
        go_wp2_with fail
        refine (all2_any w1 _ kx ky 1 S1.t).mono ?_
        rintro e w2 ⟨rfl, hb2⟩
        have S2 := S1.mono hb2
        clear S1 hb2
        have x0 := S2.z.cell (j := 0) (v := .int .i64 0) rfl; have x1 := S2.z.cell (j := 1) (v := .int .i64 0) rfl; have x2 := S2.z.cell (j := 2) (v := .int .i64 0) rfl
        have xf := S2.z.free
        obtain ⟨W7, hW7⟩ : ∃ W7, W7 = ((w2.setCell ⟨w.heap.size + 1, 0, none⟩ (.int .i64 1)).setCell ⟨w.heap.size + 1, 1, none⟩ (.int .i64 0)).setCell ⟨w.heap.size + 1, 2, none⟩ (.int .i64 0) := ⟨_, rfl⟩
        have gF : Blk W7 (w.heap.size + 1) #[.int .i64 1, .int .i64 0, .int .i64 0] 32 := by rw [hW7]; exact ((S2.z.set 0 (.int .i64 1)).set 1 (.int .i64 0)).set 2 (.int .i64 0)
        have hB7 : Below w.heap.size w W7 := by
          rw [hW7]
          have hle : w.heap.size ≤ w.heap.size + 1 := by omega
          exact ((S2.b.setCell hle _).setCell hle _).setCell hle _
        have z0 := gF.cell (j := 0) (v := .int .i64 1) rfl; have z1 := gF.cell (j := 1) (v := .int .i64 0) rfl; have z2 := gF.cell (j := 2) (v := .int .i64 0) rfl
        clear S2 gF
        go_wp2
        rw [← hW7]
        exact bodyPost_ret (v := .tuple #[.agg #[.int .i64 1, .int .i64 0, .int .i64 0], .int .i64 0]) (by simp [results, Tryz.results197, go_sem, z0, z1, z2]) rfl ⟨rfl, hB7⟩
      · obtain rfl : (2 : Int) = kr := hkr.out
        clear hop hkr
        go_wp2_with fail
        refine (tscalar_any 2 wr).mono ?_
        rintro e w1 ⟨rfl, hb1⟩
        have S1 := S.mono hb1
        clear a0 a1 S hb1
        go_wp2_with fail
        refine (all2_any w1 _ kx ky 2 S1.t).mono ?_
        rintro e w2 ⟨rfl, hb2⟩
        have S2 := S1.mono hb2
        clear S1 hb2
        have x0 := S2.z.cell (j := 0) (v := .int .i64 0) rfl; have x1 := S2.z.cell (j := 1) (v := .int .i64 0) rfl; have x2 := S2.z.cell (j := 2) (v := .int .i64 0) rfl
        have xf := S2.z.free
        obtain ⟨W7, hW7⟩ : ∃ W7, W7 = ((w2.setCell ⟨w.heap.size + 1, 0, none⟩ (.int .i64 2)).setCell ⟨w.heap.size + 1, 1, none⟩ (.int .i64 0)).setCell ⟨w.heap.size + 1, 2, none⟩ (.int .i64 0) := ⟨_, rfl⟩
        have gF : Blk W7 (w.heap.size + 1) #[.int .i64 2, .int .i64 0, .int .i64 0] 32 := by rw [hW7]; exact ((S2.z.set 0 (.int .i64 2)).set 1 (.int .i64 0)).set 2 (.int .i64 0)
        have hB7 : Below w.heap.size w W7 := by
          rw [hW7]
          have hle : w.heap.size ≤ w.heap.size + 1 := by omega
          exact ((S2.b.setCell hle _).setCell hle _).setCell hle _
        have z0 := gF.cell (j := 0) (v := .int .i64 2) rfl; have z1 := gF.cell (j := 1) (v := .int .i64 0) rfl; have z2 := gF.cell (j := 2) (v := .int .i64 0) rfl
        clear S2 gF
        go_wp2
        rw [← hW7]
        exact bodyPost_ret (v := .tuple #[.agg #[.int .i64 2, .int .i64 0, .int .i64 0], .int .i64 0]) (by simp [results, Tryz.results197, go_sem, z0, z1, z2]) rfl ⟨rfl, hB7⟩
theorem texpr_any : ∀ (t : Tr) (N : List ByteArray), t.inn N → ∀ (w : World) (P : Nat → Prop) (ev : Ev), Rep w P t ev → ∀ (q f g : Nat) (O : Value), Blk w q #[.map (some f), .map (some g), O, .int .i64 0] 179 → Mp w g (syL N) →
    Calls Tryz.prog 197 #[.pointer (some ⟨q, 0, none⟩), evV ev] w (RetTy w t.kind)
  | .nm s, N, hs, w, P, ev, hR, q, f, g, O, gq, hm => by
    have hR : ev = ⟨2, 0, s, none, 0, 0⟩ := hR
    subst hR
    exact texpr_nm s w q f g O N gq hm hs
  | .bin op val l r, N, ⟨hop, hl, hr⟩, w, P, ev, hR, q, f, g, O, gq, hm => by
    obtain ⟨b, x, y, rfl, _, gb, rl, rr⟩ := hR
    exact texpr_bin op val hop b x y l.kind r.kind w q gb (fun W hb => texpr_any l N hl W P x (rl.mono hb) q f g O (gq.mono hb) (hm.mono hb)) (fun W hb => texpr_any r N hr W P y (rr.mono hb) q f g O (gq.mono hb) (hm.mono hb))
end Go.Proofs.YtalmgeefkcebdaaGreatDoor

