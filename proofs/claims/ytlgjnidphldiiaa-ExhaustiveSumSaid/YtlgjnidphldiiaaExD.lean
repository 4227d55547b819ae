/- Exhaustive search: the state of a search; lines and equations of a variable. -/
import Derived.Test.YtlgjnidphldiiaaExC
import Derived.Test.YtlgjnidphldiiaaGadS
import Derived.Test.YtlgjnidphldiiaaCircEK
namespace Go.Proofs.Ytlgjnidphldiiaa
open Go.ChangeShapes Go.WideShapes Go.ChangeAt Go.RowKit

/-- The state of a search: its values, the inverses, the rows by their greatest variable. -/
structure SS (w0 w : World) (q p V last gi gr gw : Nat) (IL : List Int) (R : List Row3) (Wl : List Int) : Prop where
  below : Below w0.heap.size w0 w
  blk : Blk w q #[.int .u64 p, .slice (some ⟨gi, 0, none⟩) p p, .slice (some ⟨gr, 0, none⟩) V V, .int .i64 last, .slice (some ⟨gw, 0, none⟩) V V] 143
  inv : Own w w0.heap.size 22 .u64 (.slice (some ⟨gi, 0, none⟩) p p) IL
  ow : Own w w0.heap.size 22 .u64 (.slice (some ⟨gw, 0, none⟩) V V) Wl
  neq : gi ≠ gw
  grb : ∃ cs, Blk w gr cs 32
  rows : ∀ v, v < V → ∃ (a : Option Addr) (c : Nat) (Rv : List Rw), w.cell? ⟨gr, v, none⟩ = some (.slice a Rv.length c) ∧ OwnG rwL w w0.heap.size 106 (.slice a Rv.length c) Rv ∧ (∀ r ∈ Rv, LcOk w0 r.a ∧ LcOk w0 r.b ∧ LcOk w0 r.c) ∧ Rv.map Rw.val = rowsAt R v
section
variable {w0 w w' : World} {q p V last gi gr gw : Nat} {IL : List Int} {R : List Row3} {Wl : List Int}
theorem SS.mono (h : SS w0 w q p V last gi gr gw IL R Wl) (hb : Below w.heap.size w w') : SS w0 w' q p V last gi gr gw IL R Wl :=
  ⟨below2 h.below hb, h.blk.mono hb, h.inv.mono hb, h.ow.mono hb, h.neq, by obtain ⟨cs, g⟩ := h.grb; exact ⟨cs, g.mono hb⟩, fun v hv => by
    obtain ⟨a, c, Rv, h1, h2, h3, h4⟩ := h.rows v hv
    exact ⟨a, c, Rv, cell_below hb h1, h2.mono hb, h3, h4⟩⟩
/-- The types of the blocks that a search changes. -/
def XU8 (T : TypeId) : Prop := T = 22
/-- What a search leaves alone: all blocks but its own values. -/
structure KW (gw base : Nat) (w w' : World) : Prop where
  kx : KX XU8 base w w'
  oth : ∀ (b : Nat) (cs : Array Value) (T : TypeId), Blk w b cs T → b ≠ gw → Blk w' b cs T
theorem KW.refl (gw base : Nat) (w : World) : KW gw base w w := ⟨KX.refl _ _ _, fun _ _ _ h _ => h⟩
theorem KW.trans {gw base : Nat} {w w' w2 : World} (h : KW gw base w w') (k : KW gw base w' w2) : KW gw base w w2 :=
  ⟨h.kx.trans k.kx, fun b cs T g h1 => k.oth b cs T (h.oth b cs T g h1) h1⟩
theorem KW.of_below {gw base : Nat} {w w' : World} (h : Below w.heap.size w w') (hb : base ≤ w.heap.size) : KW gw base w w' := ⟨KX.of_below h hb, fun _ _ _ g _ => g.mono h⟩
theorem KW.own {α : Type} {gw : Nat} {L : Lay α} {w w' : World} {base b0 : Nat} {E : TypeId} {v : Value} {xs : List α} (k : KW gw base w w') (hX : ¬ XU8 E) (h : OwnG L w b0 E v xs) : OwnG L w' b0 E v xs := k.kx.own hX h
theorem KW.below {gw base : Nat} {w w' : World} (k : KW gw base w w') : Below base w w' := k.kx.below
theorem SS.setW (h : SS w0 w q p V last gi gr gw IL R Wl) (j : Nat) (x : Int) : SS w0 (w.setCell ⟨gw, j, none⟩ (.int .u64 x)) q p V last gi gr gw IL R (Wl.set j x) ∧ KW gw w0.heap.size w (w.setCell ⟨gw, j, none⟩ (.int .u64 x)) := by
  obtain ⟨cs, g⟩ : ∃ cs, Blk w gw cs 22 := by
    rcases h.ow.form with ⟨h0, _⟩ | ⟨g', cap', cur, h0, _, h2, _⟩
    · cases h0
    · cases h0; exact ⟨cur, h2⟩
  have hlo : w0.heap.size ≤ gw := (Own.lt h.ow rfl).1
  have k : KX XU8 w0.heap.size w (w.setCell ⟨gw, j, none⟩ (.int .u64 x)) := KX.set g rfl hlo
  refine ⟨⟨h.below.setCell (show w0.heap.size ≤ gw from hlo) _, k.typ _ _ _ h.blk (by unfold XU8; decide), ?_, h.ow.set j x, h.neq, by obtain ⟨cs, g2⟩ := h.grb; exact ⟨cs, k.typ _ _ _ g2 (by unfold XU8; decide)⟩, fun v hv => ?_⟩, ⟨k, fun _ _ _ g' h3 => g'.other (fun e => h3 e.symm) _ _⟩⟩
  · rcases h.inv.form with ⟨h0, _⟩ | ⟨g', cap', cur, h0, h1, h2, h3, h4, h5, h6⟩
    · cases h0
    · cases h0
      exact Own.of_blk h1 (h2.other (fun e => h.neq e.symm) _ _) h3 h4 h5 h6
  · obtain ⟨a, c, Rv, h1, h2, h3, h4⟩ := h.rows v hv
    refine ⟨a, c, Rv, ?_, k.own (by unfold XU8; decide) h2, h3, h4⟩
    obtain ⟨cs2, g2⟩ := h.grb
    rw [World.cell?_setCell_far _ _ _ _ (fun e => by subst e; exact absurd (blk_type g g2) (by decide))]
    exact h1
end
/-- A line at v. -/
def lnV (p : Int) (Wl : List Int) (v : Nat) (x : Lin) : Ln := if 0 < v ∧ gtL x = v then ⟨lval p Wl x.dropLast, (x.getLast?.getD (0, 0)).2⟩ else ⟨lval p Wl x, 0⟩
theorem lval_take {p : Int} (hv : vld p = true) {Wl : List Int} {v : Nat} {x : Lin} (h : ∀ t ∈ x, t.1 < (v : Int)) (hl : v ≤ Wl.length) : lval p Wl x = lval p (Wl.take v) x := by
  have e : Wl = Wl.take v ++ Wl.drop v := (List.take_append_drop v Wl).symm
  have hlen : (Wl.take v).length = v := by rw [List.length_take]; omega
  conv => lhs; rw [e]
  rw [lval_lsum hv, lval_lsum hv, lsum_more _ _ (fun t ht => by rw [hlen]; exact h t ht)]
theorem lnV_of {p hi : Int} (hv : vld p = true) {Wl : List Int} {v : Nat} {x : Lin} (hx : LinIn p 0 hi x) (hg : gtL x ≤ v) (h0 : 0 < v) (hl : v ≤ Wl.length) : lnV p Wl v x = lnOf p (Wl.take v) x := by
  have hlen : (Wl.take v).length = v := by rw [List.length_take]; omega
  unfold lnV lnOf
  rw [hlen]
  by_cases e0 : x = []
  · subst e0
    rw [if_neg (by simp only [gtL, List.getLast?_nil]; omega), if_neg (by simp only [gtL, List.getLast?_nil]; omega)]
    rfl
  · obtain ⟨y, t, rfl, h1, h2, h3, h4⟩ := lin_last hx e0
    by_cases e : gtL (y ++ [t]) = v
    · rw [if_pos ⟨h0, e⟩, if_pos ⟨e, h0⟩, List.dropLast_concat]
      rw [lval_take hv (fun u hu => by have := h1 u hu; omega) hl]
    · rw [if_neg (fun hh => e hh.2), if_neg (fun hh => e hh.1)]
      rw [lval_take hv (fun u hu => by
        rcases List.mem_append.1 hu with hu | hu
        · have := h1 u hu; omega
        · rw [List.mem_singleton] at hu; subst hu; omega) hl]
theorem lnV_bd {p hi : Int} (hv : vld p = true) {Wl : List Int} {v : Nat} {x : Lin} (hx : LinIn p 0 hi x) : (0 ≤ (lnV p Wl v x).b ∧ (lnV p Wl v x).b < p) ∧ (0 ≤ (lnV p Wl v x).s ∧ (lnV p Wl v x).s < p) := by
  have hp := vld_pos hv
  unfold lnV
  split
  · refine ⟨lval_bds hv _ _, ?_⟩
    cases e : x.getLast? with
    | none => exact ⟨Int.le_refl 0, by show (0 : Int) < p; omega⟩
    | some t =>
      have := hx.1 t (List.mem_of_getLast? e)
      show 0 ≤ t.2 ∧ t.2 < p
      omega
  · exact ⟨lval_bds hv _ _, Int.le_refl 0, by show (0 : Int) < p; omega⟩

set_option maxRecDepth 10000 in
set_option maxHeartbeats 4000000 in
theorem line_any {w0 w : World} {q p V last gi gr gw : Nat} {IL : List Int} {R : List Row3} {Wl : List Int} (D : SS w0 w q p V last gi gr gw IL R Wl) (hA : AllW Wl) (hVl : Wl.length = V) (x : Lc) (v : Nat) (hx : LcOk w0 x) (hv : vld (p : Int) = true) (hin : LinIn p 0 V x.l) (hvV : v < V) (hl : x.l.length ≤ 1000000) :
    Calls Try.prog 142 #[.pointer (some ⟨q, 0, none⟩), .slice x.ad x.l.length x.cap, .int .i64 v] w fun en w' => en = .returned (.agg #[.int .u64 (lnV p Wl v x.l).b, .int .u64 (lnV p Wl v x.l).s]) ∧ Below w.heap.size w w' := by
  have cg := fun W h => greatest_any x V W (hx.mono h) (fun t ht => ⟨by obtain ⟨i, hi, rfl⟩ := List.mem_iff_getElem.1 ht; have := asc_get x.l 0 hin.2.1 i hi; rw [List.getD_eq_getElem?_getD, List.getElem?_eq_getElem hi] at this; exact this, hin.2.2 t ht⟩) (by omega)
  have hgp : gtL x.l < V ∨ x.l = [] := by
    by_cases e0 : x.l = []
    · exact .inr e0
    · obtain ⟨y, t, e, h1, h2, h3, h4⟩ := lin_last hin e0
      left; omega
  have hp := vld_pos hv
  have hslw : ∀ W, SS w0 W q p V last gi gr gw IL R Wl → Sl W .u64 (some ⟨gw, 0, none⟩) Wl := fun W D => by
    obtain ⟨_, _, e, h, _⟩ := Own.sl D.ow
    injection e with e1 e2 e3
    subst e1
    exact h
  have cV := fun (y : Lc) W (D : SS w0 W q p V last gi gr gw IL R Wl) h => tValue_any p y (some ⟨gw, 0, none⟩) V Wl W h (hslw W D) hA
  rw [hVl] at cV
  have hvV' : (v : Int) < V := by omega
  by_cases h0 : 0 < v ∧ gtL x.l = v
  · obtain ⟨hv0, hg⟩ := h0
    have hne : x.l ≠ [] := fun e => by rw [e] at hg; simp only [gtL, List.getLast?_nil] at hg; omega
    have hlen : 0 < x.l.length := List.length_pos_iff.2 hne
    obtain ⟨b, off, e2, _, hc⟩ := (hx.sl hlen)
    obtain ⟨n, hn⟩ : ∃ n, n + 1 = x.l.length := ⟨x.l.length - 1, by omega⟩
    have c1 := cell_below D.below (hc n (by omega)).2
    have hgl : x.l.getLast? = some (x.l.getD n (0, 0)) := by
      rw [List.getLast?_eq_getElem?, show x.l.length - 1 = n by omega, List.getD_eq_getElem?_getD, List.getElem?_eq_getElem (by omega)]
      rfl
    have hln : lnV p Wl v x.l = ⟨lval p Wl x.l.dropLast, (x.l.getD n (0, 0)).2⟩ := by
      unfold lnV
      rw [if_pos ⟨hv0, hg⟩, hgl]
      rfl
    rw [hln]
    have hdl : x.l.dropLast.length = n := by rw [List.length_dropLast]; omega
    have hyok : LcOk w0 ⟨x.ad, x.cap, x.l.dropLast⟩ := ⟨fun h => by
      refine ⟨b, off, e2, by obtain ⟨_, _, e3, h3, _⟩ := hx.sl hlen; rw [e2] at e3; cases e3; exact h3, fun i hi => ?_⟩
      have hi2 : i < n := by simp only at hi; omega
      have e5 : x.l.dropLast.getD i (0, 0) = x.l.getD i (0, 0) := by
        rw [List.getD_eq_getElem?_getD, List.getD_eq_getElem?_getD, List.getElem?_dropLast, if_pos (by omega)]
      simp only
      rw [e5]
      exact hc i (by omega), fun t ht => hx.wl t (List.dropLast_subset _ ht), by simp only; rw [hdl]; have := hx.le; omega, hx.mx⟩
    have hle := hx.le
    have hmx := hx.mx
    simp only [maxLen] at hmx
    have cV1 := fun W D h => cV ⟨x.ad, x.cap, x.l.dropLast⟩ W D (hyok.mono h)
    simp only [hdl] at cV1
    generalize lval p Wl x.l.dropLast = A at *
    generalize (x.l.getD n (0, 0)).2 = cf at *
    rw [hg] at cg
    obtain ⟨ad, cap, l⟩ := x
    simp only at *
    subst e2
    have hn2 : (l.length : Int) - 1 = n := by omega
    have hn3 : (n : Int) < l.length := by omega
    have hnc : (n : Int) ≤ cap := by omega
    have hn00 : (0 : Int) ≤ n := by omega
    have hlm : (l.length : Int) ≤ 1000000 := by omega
    have hwr : IntKind.i64.wrap ((l.length : Int) - 1) = n := by rw [IntKind.wrap_i64]; omega
    have hl1 : 1 ≤ (l.length : Int) := by omega
    have hv0' : (0 : Int) < v := by omega
    have hcap : cap ≤ 9223372036854775807 := by omega
    replace hn := hide hn
    clear hc hgl hln hdl hyok hg hne hlen hgp cV hslw hin hl hmx hle hx
    go_enter Try.func142, Try.ntmps142
    go_wp2_with fail
    refine name_calls fun w2 hN => ?_
    have g6 : Blk w2 w.heap.size #[.int .u64 0, .int .u64 0] 156 := by rw [hN]; exact Blk.newAt rfl
    have hb2 : Below w.heap.size w w2 := by rw [hN]; exact (Below.refl _ _).alloc (Nat.le_refl _) _
    clear hN
    refine (cg w2 (below2 D.below hb2)).mono ?_
    rintro e w3 ⟨rfl, hb3⟩
    replace g6 := g6.mono hb3
    replace hb2 := below2 hb2 hb3
    clear cg hb3
    go_wp2_with fail
    refine Rel.region_any Try.mixed fun w4 hb4 => ?_
    replace g6 := g6.mono hb4
    replace hb2 := below2 hb2 hb4
    have D4 := D.mono hb2
    have c14 := cell_below hb2 c1
    clear hb4
    refine Rel.any_held (fun W => W.cell? ⟨q, 0, none⟩ = some (.int .u64 p) ∧ W.cell? ⟨q, 4, none⟩ = some (.slice (some ⟨gw, 0, none⟩) V V) ∧ W.cell? ⟨b, off + n * 2 + 1, none⟩ = some (.int .u64 cf)) 18 ⟨D4.blk.cell (j := 0) rfl, D4.blk.cell (j := 4) rfl, c14⟩ fun hH0 => ?_
    refine Rel.heldTake (v := ?_) 0 rfl (by kernel_rfl) (by kernel_rfl) (by kernel_rfl) (fun _ _ _ h => h) (by assumption) (by rfl) ?_ ?_
    rotate_left
    · (intro W hSw; (try dsimp only at hSw); go_simp; try with_reducible rfl)
    try simp only [Act.put, List.setIfInBounds_toArray, List.set_cons_zero, List.set_cons_succ]
    refine Rel.heldTake (v := ?_) 1 rfl (by kernel_rfl) (by kernel_rfl) (by kernel_rfl) (fun _ _ _ h => h) (by assumption) (by rfl) ?_ ?_
    rotate_left
    · (intro W hSw; (try dsimp only at hSw); go_simp; try with_reducible rfl)
    try simp only [Act.put, List.setIfInBounds_toArray, List.set_cons_zero, List.set_cons_succ]
    refine Rel.heldTake (v := ?_) 2 rfl (by kernel_rfl) (by kernel_rfl) (by kernel_rfl) (fun _ _ _ h => h) (by assumption) (by rfl) ?_ ?_
    rotate_left
    · (intro W hSw; (try dsimp only at hSw); go_simp; try with_reducible rfl)
    try simp only [Act.put, List.setIfInBounds_toArray, List.set_cons_zero, List.set_cons_succ]
    refine Rel.heldTake (v := ?_) 3 rfl (by kernel_rfl) (by kernel_rfl) (by kernel_rfl) (fun _ _ _ h => h) (by assumption) (by rfl) ?_ ?_
    rotate_left
    · (intro W hSw; (try dsimp only at hSw); go_simp; try with_reducible rfl)
    try simp only [Act.put, List.setIfInBounds_toArray, List.set_cons_zero, List.set_cons_succ]
    refine Rel.heldTake (v := ?_) 4 rfl (by kernel_rfl) (by kernel_rfl) (by kernel_rfl) (fun _ _ _ h => h) (by assumption) (by rfl) ?_ ?_
    rotate_left
    · (intro W hSw; (try dsimp only at hSw); go_simp; try with_reducible rfl)
    try simp only [Act.put, List.setIfInBounds_toArray, List.set_cons_zero, List.set_cons_succ]
    refine Rel.heldTake (v := ?_) 5 rfl (by kernel_rfl) (by kernel_rfl) (by kernel_rfl) (fun _ _ _ h => h) (by assumption) (by rfl) ?_ ?_
    rotate_left
    · (intro W hSw; (try dsimp only at hSw); go_simp; try with_reducible rfl)
    try simp only [Act.put, List.setIfInBounds_toArray, List.set_cons_zero, List.set_cons_succ]
    refine Rel.heldTake (v := ?_) 6 rfl (by kernel_rfl) (by kernel_rfl) (by kernel_rfl) (fun _ _ _ h => h) (by assumption) (by rfl) ?_ ?_
    rotate_left
    · (intro W hSw; (try dsimp only at hSw); go_simp; try with_reducible rfl)
    try simp only [Act.put, List.setIfInBounds_toArray, List.set_cons_zero, List.set_cons_succ]
    refine Rel.heldTake (v := ?_) 7 rfl (by kernel_rfl) (by kernel_rfl) (by kernel_rfl) (fun _ _ _ h => h) (by assumption) (by rfl) ?_ ?_
    rotate_left
    · (intro W hSw; (try dsimp only at hSw); go_simp; try with_reducible rfl)
    try simp only [Act.put, List.setIfInBounds_toArray, List.set_cons_zero, List.set_cons_succ]
    refine Rel.heldTake (v := ?_) 8 rfl (by kernel_rfl) (by kernel_rfl) (by kernel_rfl) (fun _ _ _ h => h) (by assumption) (by rfl) ?_ ?_
    rotate_left
    · (intro W hSw; (try dsimp only at hSw); go_simp; try with_reducible rfl)
    try simp only [Act.put, List.setIfInBounds_toArray, List.set_cons_zero, List.set_cons_succ]
    refine Rel.heldTake (v := ?_) 9 rfl (by kernel_rfl) (by kernel_rfl) (by kernel_rfl) (fun _ _ _ h => h) (by assumption) (by rfl) ?_ ?_
    rotate_left
    · (intro W hSw; (try dsimp only at hSw); go_simp; try with_reducible rfl)
    try simp only [Act.put, List.setIfInBounds_toArray, List.set_cons_zero, List.set_cons_succ]
    refine Rel.heldTake (v := ?_) 10 rfl (by kernel_rfl) (by kernel_rfl) (by kernel_rfl) (fun _ _ _ h => h) (by assumption) (by rfl) ?_ ?_
    rotate_left
    · (intro W hSw; (try dsimp only at hSw); go_simp; try with_reducible rfl)
    try simp only [Act.put, List.setIfInBounds_toArray, List.set_cons_zero, List.set_cons_succ]
    refine Rel.heldTake (v := ?_) 12 rfl (by kernel_rfl) (by kernel_rfl) (by kernel_rfl) (fun _ _ _ h => h) (by assumption) (by rfl) ?_ ?_
    rotate_left
    · (intro W hSw; (try dsimp only at hSw); go_simp; try with_reducible rfl)
    try simp only [Act.put, List.setIfInBounds_toArray, List.set_cons_zero, List.set_cons_succ]
    refine Rel.heldTake (v := ?_) 13 rfl (by kernel_rfl) (by kernel_rfl) (by kernel_rfl) (fun _ _ _ h => h) (by assumption) (by rfl) ?_ ?_
    rotate_left
    · (intro W hSw; (try dsimp only at hSw); go_simp; try with_reducible rfl)
    try simp only [Act.put, List.setIfInBounds_toArray, List.set_cons_zero, List.set_cons_succ]
    refine Rel.heldTake (v := ?_) 14 rfl (by kernel_rfl) (by kernel_rfl) (by kernel_rfl) (fun _ _ _ h => h) (by assumption) (by rfl) ?_ ?_
    rotate_left
    · (intro W hSw; (try dsimp only at hSw); go_simp; try with_reducible rfl)
    try simp only [Act.put, List.setIfInBounds_toArray, List.set_cons_zero, List.set_cons_succ]
    refine Rel.heldTake (v := ?_) 15 rfl (by kernel_rfl) (by kernel_rfl) (by kernel_rfl) (fun _ _ _ h => h) (by assumption) (by rfl) ?_ ?_
    rotate_left
    · (intro W hSw; (try dsimp only at hSw); go_simp; try with_reducible rfl)
    try simp only [Act.put, List.setIfInBounds_toArray, List.set_cons_zero, List.set_cons_succ]
    refine Rel.heldTake (v := ?_) 16 rfl (by kernel_rfl) (by kernel_rfl) (by kernel_rfl) (fun _ _ _ h => h) (by assumption) (by rfl) ?_ ?_
    rotate_left
    · (intro W hSw; (try dsimp only at hSw); go_simp; try with_reducible rfl)
    try simp only [Act.put, List.setIfInBounds_toArray, List.set_cons_zero, List.set_cons_succ]
    refine Rel.heldNext 11 rfl (by kernel_rfl) fun K hK => ?_
    go_simp
    refine (cV1 w4 D4 D4.below).mono ?_
    rintro e w5 ⟨rfl, hb5⟩
    have D5 := D4.mono hb5
    replace g6 := g6.mono hb5
    replace hb2 := below2 hb2 hb5
    refine hK.out _ _ ⟨D5.blk.cell (j := 0) rfl, D5.blk.cell (j := 4) rfl, cell_below hb5 c14⟩ (fun hH1 => ?_)
    clear hK K
    try simp only [Act.put, List.setIfInBounds_toArray, List.set_cons_zero, List.set_cons_succ]
    refine Rel.heldTake (v := ?_) 17 rfl (by kernel_rfl) (by kernel_rfl) (by kernel_rfl) (fun _ _ _ h => h) (by assumption) (by rfl) ?_ ?_
    rotate_left
    · (intro W hSw; (try dsimp only at hSw); go_simp; try with_reducible rfl)
    try simp only [Act.put, List.setIfInBounds_toArray, List.set_cons_zero, List.set_cons_succ]
    have k0 := g6.cell (j := 0) (v := .int .u64 0) rfl
    have k1 := g6.cell (j := 1) (v := .int .u64 0) rfl
    have kf := g6.free
    refine Rel.heldLast 18 rfl (by kernel_rfl) rfl (by kernel_rfl) fun K hK => ?_
    go_simp
    refine hK.out _ _ ?_
    clear hK K hH0 hH1 k0 k1
    have g7 := (g6.set 0 (.int .u64 A)).set 1 (.int .u64 cf)
    have hb7 : Below w.heap.size w ((w5.setCell ⟨w.heap.size, 0, none⟩ (.int .u64 A)).setCell ⟨w.heap.size, 1, none⟩ (.int .u64 cf)) := (hb2.setCell (p := ⟨w.heap.size, 0, none⟩) (Nat.le_refl _) _).setCell (p := ⟨w.heap.size, 1, none⟩) (Nat.le_refl _) _
    have r0 := g7.cell (j := 0) (v := .int .u64 A) rfl
    have r1 := g7.cell (j := 1) (v := .int .u64 cf) rfl
    go_wp2
    exact bodyPost_ret (v := .agg #[.int .u64 A, .int .u64 cf]) (by simp [results, Try.results142, go_sem, r0, r1]) rfl ⟨rfl, hb7⟩
  · have hln : lnV p Wl v x.l = ⟨lval p Wl x.l, 0⟩ := by unfold lnV; rw [if_neg h0]
    rw [hln]
    have cV1 := fun W D h => cV x W D (hx.mono h)
    have hgn : 0 < v → ((gtL x.l : Int) == v) = false := fun hv0 => by
      rw [beq_eq_false_iff_ne]
      intro e
      exact h0 ⟨hv0, by omega⟩
    generalize lval p Wl x.l = A at *
    generalize gtL x.l = G at *
    obtain ⟨ad, cap, l⟩ := x
    simp only at *
    clear hgp cV hslw hin hx hln h0
    by_cases hv0 : 0 < v
    · have hv0' : (0 : Int) < v := by omega
      have hgn2 := hgn hv0
      clear hgn
      go_enter Try.func142, Try.ntmps142
      go_wp2_with fail
      refine name_calls fun w2 hN => ?_
      have g6 : Blk w2 w.heap.size #[.int .u64 0, .int .u64 0] 156 := by rw [hN]; exact Blk.newAt rfl
      have hb2 : Below w.heap.size w w2 := by rw [hN]; exact (Below.refl _ _).alloc (Nat.le_refl _) _
      clear hN
      refine (cg w2 (below2 D.below hb2)).mono ?_
      rintro e w3 ⟨rfl, hb3⟩
      replace g6 := g6.mono hb3
      replace hb2 := below2 hb2 hb3
      clear cg hb3
      go_wp2_with fail
      refine Rel.region_any Try.mixed fun w4 hb4 => ?_
      replace g6 := g6.mono hb4
      replace hb2 := below2 hb2 hb4
      have D4 := D.mono hb2
      clear hb4
      refine Rel.any_held (fun W => W.cell? ⟨q, 0, none⟩ = some (.int .u64 p) ∧ W.cell? ⟨q, 4, none⟩ = some (.slice (some ⟨gw, 0, none⟩) V V)) 11 ⟨D4.blk.cell (j := 0) rfl, D4.blk.cell (j := 4) rfl⟩ fun hH0 => ?_
      refine Rel.heldTake (v := ?_) 0 rfl (by kernel_rfl) (by kernel_rfl) (by kernel_rfl) (fun _ _ _ h => h) (by assumption) (by rfl) ?_ ?_
      rotate_left
      · (intro W hSw; (try dsimp only at hSw); go_simp; try with_reducible rfl)
      try simp only [Act.put, List.setIfInBounds_toArray, List.set_cons_zero, List.set_cons_succ]
      refine Rel.heldTake (v := ?_) 1 rfl (by kernel_rfl) (by kernel_rfl) (by kernel_rfl) (fun _ _ _ h => h) (by assumption) (by rfl) ?_ ?_
      rotate_left
      · (intro W hSw; (try dsimp only at hSw); go_simp; try with_reducible rfl)
      try simp only [Act.put, List.setIfInBounds_toArray, List.set_cons_zero, List.set_cons_succ]
      refine Rel.heldTake (v := ?_) 2 rfl (by kernel_rfl) (by kernel_rfl) (by kernel_rfl) (fun _ _ _ h => h) (by assumption) (by rfl) ?_ ?_
      rotate_left
      · (intro W hSw; (try dsimp only at hSw); go_simp; try with_reducible rfl)
      try simp only [Act.put, List.setIfInBounds_toArray, List.set_cons_zero, List.set_cons_succ]
      refine Rel.heldTake (v := ?_) 3 rfl (by kernel_rfl) (by kernel_rfl) (by kernel_rfl) (fun _ _ _ h => h) (by assumption) (by rfl) ?_ ?_
      rotate_left
      · (intro W hSw; (try dsimp only at hSw); go_simp; try with_reducible rfl)
      try simp only [Act.put, List.setIfInBounds_toArray, List.set_cons_zero, List.set_cons_succ]
      refine Rel.heldTake (v := ?_) 4 rfl (by kernel_rfl) (by kernel_rfl) (by kernel_rfl) (fun _ _ _ h => h) (by assumption) (by rfl) ?_ ?_
      rotate_left
      · (intro W hSw; (try dsimp only at hSw); go_simp; try with_reducible rfl)
      try simp only [Act.put, List.setIfInBounds_toArray, List.set_cons_zero, List.set_cons_succ]
      refine Rel.heldTake (v := ?_) 5 rfl (by kernel_rfl) (by kernel_rfl) (by kernel_rfl) (fun _ _ _ h => h) (by assumption) (by rfl) ?_ ?_
      rotate_left
      · (intro W hSw; (try dsimp only at hSw); go_simp; try with_reducible rfl)
      try simp only [Act.put, List.setIfInBounds_toArray, List.set_cons_zero, List.set_cons_succ]
      refine Rel.heldTake (v := ?_) 6 rfl (by kernel_rfl) (by kernel_rfl) (by kernel_rfl) (fun _ _ _ h => h) (by assumption) (by rfl) ?_ ?_
      rotate_left
      · (intro W hSw; (try dsimp only at hSw); go_simp; try with_reducible rfl)
      try simp only [Act.put, List.setIfInBounds_toArray, List.set_cons_zero, List.set_cons_succ]
      refine Rel.heldTake (v := ?_) 7 rfl (by kernel_rfl) (by kernel_rfl) (by kernel_rfl) (fun _ _ _ h => h) (by assumption) (by rfl) ?_ ?_
      rotate_left
      · (intro W hSw; (try dsimp only at hSw); go_simp; try with_reducible rfl)
      try simp only [Act.put, List.setIfInBounds_toArray, List.set_cons_zero, List.set_cons_succ]
      refine Rel.heldTake (v := ?_) 8 rfl (by kernel_rfl) (by kernel_rfl) (by kernel_rfl) (fun _ _ _ h => h) (by assumption) (by rfl) ?_ ?_
      rotate_left
      · (intro W hSw; (try dsimp only at hSw); go_simp; try with_reducible rfl)
      try simp only [Act.put, List.setIfInBounds_toArray, List.set_cons_zero, List.set_cons_succ]
      refine Rel.heldNext 9 rfl (by kernel_rfl) fun K hK => ?_
      go_simp
      refine (cV1 w4 D4 D4.below).mono ?_
      rintro e w5 ⟨rfl, hb5⟩
      have D5 := D4.mono hb5
      replace g6 := g6.mono hb5
      replace hb2 := below2 hb2 hb5
      refine hK.out _ _ ⟨D5.blk.cell (j := 0) rfl, D5.blk.cell (j := 4) rfl⟩ (fun hH1 => ?_)
      clear hK K
      try simp only [Act.put, List.setIfInBounds_toArray, List.set_cons_zero, List.set_cons_succ]
      refine Rel.heldTake (v := ?_) 10 rfl (by kernel_rfl) (by kernel_rfl) (by kernel_rfl) (fun _ _ _ h => h) (by assumption) (by rfl) ?_ ?_
      rotate_left
      · (intro W hSw; (try dsimp only at hSw); go_simp; try with_reducible rfl)
      try simp only [Act.put, List.setIfInBounds_toArray, List.set_cons_zero, List.set_cons_succ]
      have k0 := g6.cell (j := 0) (v := .int .u64 0) rfl
      have k1 := g6.cell (j := 1) (v := .int .u64 0) rfl
      have kf := g6.free
      refine Rel.heldLast 11 rfl (by kernel_rfl) rfl (by kernel_rfl) fun K hK => ?_
      go_simp
      refine hK.out _ _ ?_
      clear hK K hH0 hH1 k0 k1
      have g7 := (g6.set 0 (.int .u64 A)).set 1 (.int .u64 0)
      have hb7 : Below w.heap.size w ((w5.setCell ⟨w.heap.size, 0, none⟩ (.int .u64 A)).setCell ⟨w.heap.size, 1, none⟩ (.int .u64 0)) := (hb2.setCell (p := ⟨w.heap.size, 0, none⟩) (Nat.le_refl _) _).setCell (p := ⟨w.heap.size, 1, none⟩) (Nat.le_refl _) _
      have r0 := g7.cell (j := 0) (v := .int .u64 A) rfl
      have r1 := g7.cell (j := 1) (v := .int .u64 0) rfl
      go_wp2
      exact bodyPost_ret (v := .agg #[.int .u64 A, .int .u64 0]) (by simp [results, Try.results142, go_sem, r0, r1]) rfl ⟨rfl, hb7⟩
    · obtain rfl : v = 0 := by omega
      have hz : decide ((0 : Int) < ((0 : Nat) : Int)) = false := by decide
      clear hgn cg
      go_enter Try.func142, Try.ntmps142
      go_wp2_with fail
      refine name_world fun w3 hN => ?_
      have g6 : Blk w3 w.heap.size #[.int .u64 0, .int .u64 0] 156 := by rw [hN]; exact Blk.newAt rfl
      have hb2 : Below w.heap.size w w3 := by rw [hN]; exact (Below.refl _ _).alloc (Nat.le_refl _) _
      clear hN
      refine Rel.region_any Try.mixed fun w4 hb4 => ?_
      replace g6 := g6.mono hb4
      replace hb2 := below2 hb2 hb4
      have D4 := D.mono hb2
      clear hb4
      refine Rel.any_held (fun W => W.cell? ⟨q, 0, none⟩ = some (.int .u64 p) ∧ W.cell? ⟨q, 4, none⟩ = some (.slice (some ⟨gw, 0, none⟩) V V)) 11 ⟨D4.blk.cell (j := 0) rfl, D4.blk.cell (j := 4) rfl⟩ fun hH0 => ?_
      refine Rel.heldTake (v := ?_) 0 rfl (by kernel_rfl) (by kernel_rfl) (by kernel_rfl) (fun _ _ _ h => h) (by assumption) (by rfl) ?_ ?_
      rotate_left
      · (intro W hSw; (try dsimp only at hSw); go_simp; try with_reducible rfl)
      try simp only [Act.put, List.setIfInBounds_toArray, List.set_cons_zero, List.set_cons_succ]
      refine Rel.heldTake (v := ?_) 1 rfl (by kernel_rfl) (by kernel_rfl) (by kernel_rfl) (fun _ _ _ h => h) (by assumption) (by rfl) ?_ ?_
      rotate_left
      · (intro W hSw; (try dsimp only at hSw); go_simp; try with_reducible rfl)
      try simp only [Act.put, List.setIfInBounds_toArray, List.set_cons_zero, List.set_cons_succ]
      refine Rel.heldTake (v := ?_) 2 rfl (by kernel_rfl) (by kernel_rfl) (by kernel_rfl) (fun _ _ _ h => h) (by assumption) (by rfl) ?_ ?_
      rotate_left
      · (intro W hSw; (try dsimp only at hSw); go_simp; try with_reducible rfl)
      try simp only [Act.put, List.setIfInBounds_toArray, List.set_cons_zero, List.set_cons_succ]
      refine Rel.heldTake (v := ?_) 3 rfl (by kernel_rfl) (by kernel_rfl) (by kernel_rfl) (fun _ _ _ h => h) (by assumption) (by rfl) ?_ ?_
      rotate_left
      · (intro W hSw; (try dsimp only at hSw); go_simp; try with_reducible rfl)
      try simp only [Act.put, List.setIfInBounds_toArray, List.set_cons_zero, List.set_cons_succ]
      refine Rel.heldTake (v := ?_) 4 rfl (by kernel_rfl) (by kernel_rfl) (by kernel_rfl) (fun _ _ _ h => h) (by assumption) (by rfl) ?_ ?_
      rotate_left
      · (intro W hSw; (try dsimp only at hSw); go_simp; try with_reducible rfl)
      try simp only [Act.put, List.setIfInBounds_toArray, List.set_cons_zero, List.set_cons_succ]
      refine Rel.heldTake (v := ?_) 5 rfl (by kernel_rfl) (by kernel_rfl) (by kernel_rfl) (fun _ _ _ h => h) (by assumption) (by rfl) ?_ ?_
      rotate_left
      · (intro W hSw; (try dsimp only at hSw); go_simp; try with_reducible rfl)
      try simp only [Act.put, List.setIfInBounds_toArray, List.set_cons_zero, List.set_cons_succ]
      refine Rel.heldTake (v := ?_) 6 rfl (by kernel_rfl) (by kernel_rfl) (by kernel_rfl) (fun _ _ _ h => h) (by assumption) (by rfl) ?_ ?_
      rotate_left
      · (intro W hSw; (try dsimp only at hSw); go_simp; try with_reducible rfl)
      try simp only [Act.put, List.setIfInBounds_toArray, List.set_cons_zero, List.set_cons_succ]
      refine Rel.heldTake (v := ?_) 7 rfl (by kernel_rfl) (by kernel_rfl) (by kernel_rfl) (fun _ _ _ h => h) (by assumption) (by rfl) ?_ ?_
      rotate_left
      · (intro W hSw; (try dsimp only at hSw); go_simp; try with_reducible rfl)
      try simp only [Act.put, List.setIfInBounds_toArray, List.set_cons_zero, List.set_cons_succ]
      refine Rel.heldTake (v := ?_) 8 rfl (by kernel_rfl) (by kernel_rfl) (by kernel_rfl) (fun _ _ _ h => h) (by assumption) (by rfl) ?_ ?_
      rotate_left
      · (intro W hSw; (try dsimp only at hSw); go_simp; try with_reducible rfl)
      try simp only [Act.put, List.setIfInBounds_toArray, List.set_cons_zero, List.set_cons_succ]
      refine Rel.heldNext 9 rfl (by kernel_rfl) fun K hK => ?_
      go_simp
      refine (cV1 w4 D4 D4.below).mono ?_
      rintro e w5 ⟨rfl, hb5⟩
      have D5 := D4.mono hb5
      replace g6 := g6.mono hb5
      replace hb2 := below2 hb2 hb5
      refine hK.out _ _ ⟨D5.blk.cell (j := 0) rfl, D5.blk.cell (j := 4) rfl⟩ (fun hH1 => ?_)
      clear hK K
      try simp only [Act.put, List.setIfInBounds_toArray, List.set_cons_zero, List.set_cons_succ]
      refine Rel.heldTake (v := ?_) 10 rfl (by kernel_rfl) (by kernel_rfl) (by kernel_rfl) (fun _ _ _ h => h) (by assumption) (by rfl) ?_ ?_
      rotate_left
      · (intro W hSw; (try dsimp only at hSw); go_simp; try with_reducible rfl)
      try simp only [Act.put, List.setIfInBounds_toArray, List.set_cons_zero, List.set_cons_succ]
      have k0 := g6.cell (j := 0) (v := .int .u64 0) rfl
      have k1 := g6.cell (j := 1) (v := .int .u64 0) rfl
      have kf := g6.free
      refine Rel.heldLast 11 rfl (by kernel_rfl) rfl (by kernel_rfl) fun K hK => ?_
      go_simp
      refine hK.out _ _ ?_
      clear hK K hH0 hH1 k0 k1
      have g7 := (g6.set 0 (.int .u64 A)).set 1 (.int .u64 0)
      have hb7 : Below w.heap.size w ((w5.setCell ⟨w.heap.size, 0, none⟩ (.int .u64 A)).setCell ⟨w.heap.size, 1, none⟩ (.int .u64 0)) := (hb2.setCell (p := ⟨w.heap.size, 0, none⟩) (Nat.le_refl _) _).setCell (p := ⟨w.heap.size, 1, none⟩) (Nat.le_refl _) _
      have r0 := g7.cell (j := 0) (v := .int .u64 A) rfl
      have r1 := g7.cell (j := 1) (v := .int .u64 0) rfl
      go_wp2
      exact bodyPost_ret (v := .agg #[.int .u64 A, .int .u64 0]) (by simp [results, Try.results142, go_sem, r0, r1]) rfl ⟨rfl, hb7⟩
end Go.Proofs.Ytlgjnidphldiiaa
