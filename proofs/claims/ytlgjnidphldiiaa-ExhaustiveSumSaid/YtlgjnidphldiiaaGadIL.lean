/- Gadgets: IsZero, Equal, And, Or of the program. -/
import Derived.Test.YtlgjnidphldiiaaGadEH
namespace Go.Proofs.Ytlgjnidphldiiaa
open Go.RowKit

theorem gIsZero_bd {S : St} {n : Int} {x : Lin} (h : Bd S n) : Bd (gIsZero S x).1 (n + 5) := (h.hint.mul.row.row).up (by omega)

set_option maxRecDepth 10000 in
set_option maxHeartbeats 2000000 in
theorem IsZero20_any (base b : Nat) (S : St) (n : Int) (x : Lc) (w : World) (h : Bld w base b S) (hv : vld S.p = true) (hS : Bd S n) (hn : n ≤ 900000000) (hx : LinT w x) (lx : x.l.length ≤ 1000000) :
    Calls Try.prog 45 #[.pointer (some ⟨b, 0, none⟩), .slice x.ad x.l.length x.cap] w (RetB w base b (gIsZero S x.l).1 (gIsZero S x.l).2) := by
  have cH := hint20_any base b S 2 x ⟨none, 0, []⟩ 0 w h hv hx.ok (LinT.nil w).ok (by omega) (by simp) (by have := hS.h; omega) ⟨hS.v.1, by have := hS.v.2; omega⟩ (by decide) (by decide)
  simp only [List.length_nil] at cH
  have hS1 := hS.hint (k := 2) (bit := 0) (x := x.l) (y := [])
  go_enter Try.func45, Try.ntmps45
  go_wp2_with fail
  refine cH.mono ?_
  rintro e w1 ⟨v, rfl, ev, hv1, hB1, k1⟩
  have lv : v.l.length = 1 := by rw [ev.out]; rfl
  have cM := Mul20_any base b (gHint S 2 x.l [] 0) (n + 1) x v w1 hB1 hv hS1 (by omega) (k1.lin hx) hv1 lx (by omega)
  rw [show v.l = nv S from ev.out] at cM
  replace lv := hide lv
  rw [show (nv S).length = v.l.length by rw [lv.out]; rfl] at cM
  clear cH
  go_wp2_with fail
  refine cM.mono ?_
  rintro e w2 ⟨m, rfl, em, hm, hB2, k2⟩
  have lm : m.l.length = 1 := by rw [em.out]; rfl
  obtain ⟨cs, g, hc0⟩ := hB2.cell0
  have cN := Not20_any b cs _ S.p m w2 g hc0 hv hm.ok (by omega)
  rw [show m.l = nv (gHint S 2 x.l [] 0) from em.out] at cN
  replace lm := hide lm
  rw [show (nv (gHint S 2 x.l [] 0)).length = m.l.length by rw [lm.out]; rfl] at cN
  clear cM g hc0
  go_wp2_with fail
  refine cN.mono ?_
  rintro e w3 ⟨z, rfl, ez, hz, hb3⟩
  have lz : z.l.length ≤ 2 := by rw [ez.out]; exact addP_len S.p [(0, 1)] (nv (gHint S 2 x.l [] 0)) _
  have hS2 := hS1.mul (x := x.l) (y := nv S)
  have k12 := k1.trans k2
  have cR := row20_any base b (gMul (gHint S 2 x.l [] 0) x.l (nv S)) x z ⟨none, 0, []⟩ w3 (hB2.mono hb3) ((k12.lin hx).mono hb3).ok hz.ok (LinT.nil _).ok (by omega) (by omega) (by simp) (by have := hS2.r; omega)
  simp only [List.length_nil] at cR
  clear cN
  go_wp2_with fail
  refine cR.mono ?_
  rintro e w4 ⟨rfl, hB4, k4⟩
  have hS4 := hS2.row (x := x.l) (y := z.l) (z := [])
  have cR2 := row20_any base b (gRow (gMul (gHint S 2 x.l [] 0) x.l (nv S)) x.l z.l []) v z ⟨none, 0, []⟩ w4 hB4 (k4.lin ((k2.lin hv1).mono hb3)).ok (k4.lin hz).ok (LinT.nil _).ok (by have := lv.out; omega) (by omega) (by simp) (by have := hS4.r; omega)
  simp only [List.length_nil] at cR2
  rw [show ({ (gRow (gMul (gHint S 2 x.l [] 0) x.l (nv S)) x.l z.l []) with R := (gRow (gMul (gHint S 2 x.l [] 0) x.l (nv S)) x.l z.l []).R ++ [⟨v.l, z.l, []⟩] } : St) = (gIsZero S x.l).1 by rw [ev.out, ez.out]; rfl] at cR2
  clear cR hS4 hS2 hS1 hS lz
  go_wp2_with fail
  refine cR2.mono ?_
  rintro e w5 ⟨rfl, hB5, k5⟩
  clear cR2
  go_wp2
  go_ret
  exact ⟨z, rfl, ez, k5.lin (k4.lin hz), hB5, ((k12.trans (Kept.of_below hb3 hB2.lt)).trans k4).trans k5⟩

set_option maxHeartbeats 1000000 in
theorem Equal20_any (base b : Nat) (S : St) (n : Int) (x y : Lc) (w : World) (h : Bld w base b S) (hv : vld S.p = true) (hS : Bd S n) (hn : n ≤ 900000000) (hx : LinT w x) (hy : LinT w y) (lx : x.l.length ≤ 400000) (ly : y.l.length ≤ 400000) :
    Calls Try.prog 44 #[.pointer (some ⟨b, 0, none⟩), .slice x.ad x.l.length x.cap, .slice y.ad y.l.length y.cap] w (RetB w base b (gEqual S x.l y.l).1 (gEqual S x.l y.l).2) := by
  obtain ⟨cs, g, hc0⟩ := h.cell0
  have c0 := g.cell hc0
  have cS := gSub_any S.p x y w hx.ok hy.ok (fun _ => by omega)
  have hl := addP_len S.p x.l y.l (fneg S.p 1)
  go_enter Try.func44, Try.ntmps44
  go_wp2_with fail
  refine cS.mono ?_
  rintro e w1 ⟨s, rfl, es, hs, hb1⟩
  have cZ := IsZero20_any base b S n s w1 (h.mono hb1) hv hS hn hs (by rw [es.out]; omega)
  rw [show gIsZero S s.l = gEqual S x.l y.l by rw [es.out]; rfl] at cZ
  clear cS c0 hl
  go_wp2_with fail
  refine cZ.mono ?_
  rintro e w2 ⟨z, rfl, ez, hz, hB2, k2⟩
  clear cZ
  go_wp2
  go_ret
  exact ⟨z, rfl, ez, hz, hB2, (Kept.of_below hb1 h.lt).trans k2⟩

set_option maxHeartbeats 1000000 in
theorem And20_any (base b : Nat) (S : St) (n : Int) (x y : Lc) (w : World) (h : Bld w base b S) (hv : vld S.p = true) (hS : Bd S n) (hn : n ≤ 1000000000) (hx : LinT w x) (hy : LinT w y) (lx : x.l.length ≤ 1000000) (ly : y.l.length ≤ 1000000) :
    Calls Try.prog 46 #[.pointer (some ⟨b, 0, none⟩), .slice x.ad x.l.length x.cap, .slice y.ad y.l.length y.cap] w (RetB w base b (gMul S x.l y.l) (nv S)) := by
  have cM := Mul20_any base b S n x y w h hv hS hn hx hy lx ly
  go_enter Try.func46, Try.ntmps46
  go_wp2_with fail
  refine cM.mono ?_
  rintro e w2 ⟨m, rfl, em, hm, hB2, k2⟩
  go_wp2
  go_ret
  exact ⟨m, rfl, em, hm, hB2, k2⟩
end Go.Proofs.Ytlgjnidphldiiaa

/- Gadgets: slices that are filled element by element, beside a builder. -/
namespace Go.Proofs.Ytlgjnidphldiiaa
open Go.RowKit

/-- A slice of linear combinations. -/
def lcL : Lay Lc := ⟨fun s => [lcV s], 1, fun _ => rfl, by decide, fun x u hu => by
  rw [List.mem_singleton] at hu; subst hu; rfl⟩
theorem Try.infoLc : (Try.prog.info? 44).map (fun i => (i.zero, i.size, i.bytes)) = some (some (.slice none 0 0), 1, 24) := by kernel_rfl

theorem flat1 (xs : List Lc) : xs.flatMap lcL.f = xs.map lcV := by
  induction xs with
  | nil => rfl
  | cons x xs ih => rw [List.flatMap_cons, ih]; rfl
theorem flat2_set : ∀ (xs : Lin) (i : Nat) (t : Int × Int), i < xs.length → ((xs.flatMap tmL.f).set (i * 2) (.int .i64 t.1)).set (i * 2 + 1) (.int .u64 t.2) = (xs.set i t).flatMap tmL.f
  | x :: xs, 0, t, _ => rfl
  | x :: xs, i + 1, t, h => by
    have ih := flat2_set xs i t (by simpa using h)
    rw [List.set_cons_succ, List.flatMap_cons, List.flatMap_cons, ← ih, show (i + 1) * 2 = i * 2 + 2 by omega]
    rfl

theorem OwnG.made {α : Type} {L : Lay α} {w : World} {base cap : Nat} {E : TypeId} {cs : Array Value} (d : α) (hcs : cs.toList = L.f d) (hb : base ≤ w.heap.size) (hm : cap ≤ maxLen) :
    OwnG L (w.alloc (.cells (madeCells cs (cap * L.m)) E)) base E (.slice (some ⟨w.heap.size, 0, none⟩) cap cap) (List.replicate cap d) := by
  have hsz : cs.size = L.m := by rw [← Array.length_toList, hcs, L.len]
  have h := OwnG.of_blk (L := L) (xs := List.replicate cap d) (cap := cap) hb (Blk.new w (madeCells cs (cap * L.m)) E) (by simp) hm (by simp [madeCells]) (by
    rw [List.length_replicate, List.take_of_length_le (by simp [madeCells])]
    refine List.ext_getElem? fun k => ?_
    by_cases hk : k < cap * L.m
    · have hj : k % L.m < L.m := Nat.mod_lt _ L.pos
      have hi : k / L.m < cap := Nat.div_lt_of_lt_mul (by rw [Nat.mul_comm]; exact hk)
      have e : k = k / L.m * L.m + k % L.m := by rw [Nat.mul_comm]; exact (Nat.div_add_mod k L.m).symm
      have h2 := L.flat_get (List.replicate cap d) d (i := k / L.m) (j := k % L.m) (by simpa using hi) hj
      rw [← e] at h2
      rw [h2, List.getD_eq_getElem?_getD, List.getElem?_replicate, if_pos hi, Option.getD_some, ← hcs]
      unfold madeCells
      rw [Array.getElem?_toList, Array.getElem?_map, Array.getElem?_range, if_pos hk, Array.getElem?_toList, Option.map_some, hsz]
      have hl : k % L.m < cs.size := by rw [hsz]; exact hj
      rw [Array.getElem?_eq_getElem hl]
      simp [hl]
    · rw [List.getElem?_eq_none (by simp [madeCells]; omega), List.getElem?_eq_none (by rw [L.flat_len, List.length_replicate]; omega)])
  rw [List.length_replicate] at h
  exact h

section
variable {w : World} {base g n cap : Nat} {E : TypeId}
theorem OwnG.setLc {xs : List Lc} (h : OwnG lcL w base E (.slice (some ⟨g, 0, none⟩) n cap) xs) (i : Nat) (s : Lc) : OwnG lcL (w.setCell ⟨g, i, none⟩ (lcV s)) base E (.slice (some ⟨g, 0, none⟩) n cap) (xs.set i s) := by
  rcases h.form with ⟨h0, _⟩ | ⟨g', cap', cur, h0, h1, h2, h3, h4, h5, h6⟩
  · cases h0
  · cases h0
    have := OwnG.of_blk (L := lcL) (w := w.setCell ⟨g, i, none⟩ (lcV s)) (xs := xs.set i s) (cap := cap) h1 (h2.set i (lcV s)) (by simpa using h3) h4 (by simpa using h5) (by
      rw [Array.toList_setIfInBounds, List.length_set, flat1, List.map_set, ← flat1, ← h6, List.take_set])
    rw [List.length_set] at this
    exact this
theorem OwnG.setTm {xs : Lin} (h : OwnG tmL w base E (.slice (some ⟨g, 0, none⟩) n cap) xs) (i : Nat) (hi : i < xs.length) (t : Int × Int) :
    OwnG tmL ((w.setCell ⟨g, i * 2, none⟩ (.int .i64 t.1)).setCell ⟨g, i * 2 + 1, none⟩ (.int .u64 t.2)) base E (.slice (some ⟨g, 0, none⟩) n cap) (xs.set i t) := by
  rcases h.form with ⟨h0, _⟩ | ⟨g', cap', cur, h0, h1, h2, h3, h4, h5, h6⟩
  · cases h0
  · cases h0
    have := OwnG.of_blk (L := tmL) (w := (w.setCell ⟨g, i * 2, none⟩ (.int .i64 t.1)).setCell ⟨g, i * 2 + 1, none⟩ (.int .u64 t.2)) (xs := xs.set i t) (cap := cap) h1 ((h2.set (i * 2) (.int .i64 t.1)).set (i * 2 + 1) (.int .u64 t.2)) (by simpa using h3) h4 (by simpa using h5) (by
      rw [Array.toList_setIfInBounds, Array.toList_setIfInBounds, List.length_set, ← flat2_set xs i t hi, ← h6, List.take_set, List.take_set])
    rw [List.length_set] at this
    exact this
theorem OwnG.blkE {α : Type} {L : Lay α} {xs : List α} (h : OwnG L w base E (.slice (some ⟨g, 0, none⟩) n cap) xs) : base ≤ g ∧ ∃ cs, Blk w g cs E := by
  rcases h.form with ⟨h0, _⟩ | ⟨g', cap', cur, h0, h1, h2, _⟩
  · cases h0
  · cases h0; exact ⟨h1, cur, h2⟩
theorem OwnG.lenE {α : Type} {L : Lay α} {xs : List α} (h : OwnG L w base E (.slice (some ⟨g, 0, none⟩) n cap) xs) : n = xs.length := by
  rcases h.form with ⟨h0, _⟩ | ⟨g', cap', cur, h0, h1, h2, _⟩
  · cases h0
  · cases h0; rfl
theorem OwnG.slE {α : Type} {L : Lay α} {ad : Option Addr} {xs : List α} (h : OwnG L w base E (.slice ad n cap) xs) : SlG L w ad xs := by
  obtain ⟨a, c, e, hs, _⟩ := h.sl
  cases e
  exact hs
/-- The cells of an element. -/
theorem OwnG.cellE {α : Type} {L : Lay α} {xs : List α} (d : α) (h : OwnG L w base E (.slice (some ⟨g, 0, none⟩) n cap) xs) {i j : Nat} {u : Value} (hi : i < xs.length) (hj : j < L.m) (hu : (L.f (xs.getD i d))[j]? = some u) : w.cell? ⟨g, i * L.m + j, none⟩ = some u := by
  obtain ⟨b, off, e, _, hc⟩ := h.slE (by omega)
  cases e
  have := hc (i * L.m + j) u (by rw [L.flat_get xs d hi hj]; exact hu)
  rwa [Nat.zero_add] at this
end

theorem Kept.ownG {α : Type} {L : Lay α} {w w' : World} {base b0 : Nat} {E : TypeId} {v : Value} {xs : List α} (k : Kept base w w') (h : OwnG L w b0 E v xs) (h1 : E ≠ 106) (h2 : E ≠ 108) (h3 : E ≠ 104) : OwnG L w' b0 E v xs := by
  rcases h.form with ⟨rfl, rfl⟩ | ⟨g, cap, cur, rfl, g1, g2, g3, g4, g5, g6⟩
  · exact OwnG.nil _ _ _ _
  · exact OwnG.of_blk g1 (k.typ g cur E g2 h1 h2 h3) g3 g4 g5 g6
/-- A cell of a block that was not there at first. -/
theorem Kept.setNew {base : Nat} {w wr : World} (k : Kept base w wr) {g j : Nat} (hg : w.heap.size ≤ g) (hb : base ≤ w.heap.size) (u : Value) : Kept base w (wr.setCell ⟨g, j, none⟩ u) :=
  ⟨k.below.setCell (by show base ≤ g; omega) _, fun b cs T gb h1 h2 h3 => (k.typ b cs T gb h1 h2 h3).other (fun e => by subst e; have := gb.lt; omega) _ _⟩
theorem Bld.other {w : World} {base b g : Nat} {S : St} {cs : Array Value} {E : TypeId} {A : Nat → Prop} (h : Bld w base b S A) (gb : Blk w g cs E) (h1 : E ≠ 106) (h2 : E ≠ 108) (h3 : E ≠ 104) (j : Nat) (u : Value) (hl : ∀ s, LinT w s → Av A s → LinT (w.setCell ⟨g, j, none⟩ u) s) : Bld (w.setCell ⟨g, j, none⟩ u) base b S A := by
  obtain ⟨vr, R, vh, H, h⟩ := h
  exact ⟨vr, R, vh, H, h.blk.other (fun e => by subst e; exact h3 (blk_type gb h.blk)) _ _, h.lo, h.rows.other (h.rows.neq gb (fun e => h1 e.symm)) _, h.hints.other (h.hints.neq gb (fun e => h2 e.symm)) _,
    fun r hr => ⟨hl _ (h.rok r hr).1 (h.rav r hr).1, hl _ (h.rok r hr).2.1 (h.rav r hr).2.1, hl _ (h.rok r hr).2.2 (h.rav r hr).2.2⟩, fun r hr => ⟨hl _ (h.hok r hr).1 (h.hav r hr).1, hl _ (h.hok r hr).2.1 (h.hav r hr).2, (h.hok r hr).2.2⟩, h.rv, h.hv, h.rav, h.hav⟩
theorem LinT.setType {w : World} {s : Lc} {g j : Nat} {cs : Array Value} {E : TypeId} {u : Value} (h : LinT w s) (gb : Blk w g cs E) (hE : E ≠ 100) : LinT (w.setCell ⟨g, j, none⟩ u) s := by
  by_cases e : s.l = []
  · exact ⟨lc_nil h.ok e _, fun h0 => absurd e h0⟩
  · obtain ⟨b, off, cs', e2, g2⟩ := h.blk e
    have hne : g ≠ b := fun e => by subst e; exact hE (blk_type gb g2)
    refine ⟨⟨fun h0 => ?_, h.ok.wl, h.ok.le, h.ok.mx⟩, fun _ => ⟨b, off, cs', e2, g2.other hne _ _⟩⟩
    obtain ⟨b', off', e3, hl, hc⟩ := h.ok.sl h0
    rw [e2] at e3
    cases e3
    exact ⟨b, off, e2, by simpa using hl, fun i hi => ⟨by rw [World.cell?_setCell_far _ _ _ _ hne]; exact (hc i hi).1, by rw [World.cell?_setCell_far _ _ _ _ hne]; exact (hc i hi).2⟩⟩
/-- A cell of a block that its combination avoids. -/
theorem LinT.setAv {w : World} {s : Lc} {g j : Nat} {u : Value} {A : Nat → Prop} (h : LinT w s) (ha : Av A s) (hg : A g) : LinT (w.setCell ⟨g, j, none⟩ u) s := by
  by_cases e : s.l = []
  · exact ⟨lc_nil h.ok e _, fun h0 => absurd e h0⟩
  · obtain ⟨b, off, cs', e2, g2⟩ := h.blk e
    have hne : g ≠ b := fun e3 => ha e _ e2 (by rw [← e3]; exact hg)
    refine ⟨⟨fun h0 => ?_, h.ok.wl, h.ok.le, h.ok.mx⟩, fun _ => ⟨b, off, cs', e2, g2.other hne _ _⟩⟩
    obtain ⟨b', off', e3, hl, hc⟩ := h.ok.sl h0
    rw [e2] at e3
    cases e3
    exact ⟨b, off, e2, by simpa using hl, fun i hi => ⟨by rw [World.cell?_setCell_far _ _ _ _ hne]; exact (hc i hi).1, by rw [World.cell?_setCell_far _ _ _ _ hne]; exact (hc i hi).2⟩⟩
end Go.Proofs.Ytlgjnidphldiiaa

/- Gadgets: Bits of the program. -/
namespace Go.Proofs.Ytlgjnidphldiiaa
open Go.RowKit

/-- The bits, on values. -/
def bitsS (S : St) (x : Lin) : Nat → St
  | 0 => S
  | k + 1 => gBool (gHint (bitsS S x k) 3 x [] k) (nv (bitsS S x k))
def bitT (S : St) (i : Nat) : Int × Int := (S.vars + i, fred S.p ((2 : Int) ^ i))
def bitsSum (S : St) (n : Nat) : Lin := (List.range n).map (bitT S)
def bitsL (S : St) (n : Nat) : List Lin := (List.range n).map fun (i : Nat) => [(S.vars + (i : Int), 1)]
def gBits (S : St) (x : Lin) (n : Nat) : St := gAssert (bitsS S x n) (bitsSum S n) x
theorem bitsS_vars (S : St) (x : Lin) : ∀ k : Nat, (bitsS S x k).vars = S.vars + k
  | 0 => by simp [bitsS]
  | k + 1 => by
    show (bitsS S x k).vars + 1 = _
    rw [bitsS_vars S x k]; omega
theorem bitsS_p (S : St) (x : Lin) : ∀ k : Nat, (bitsS S x k).p = S.p
  | 0 => rfl
  | k + 1 => bitsS_p S x k
theorem bitsS_bd {S : St} {n : Int} (h : Bd S n) (x : Lin) : ∀ k : Nat, Bd (bitsS S x k) (n + 2 * k)
  | 0 => h.up (by omega)
  | k + 1 => ((bitsS_bd h x k).hint.row).up (by omega)
theorem bitsSum_len (S : St) (n : Nat) : (bitsSum S n).length = n := by simp [bitsSum]
theorem bitsSum_next (S : St) (n k : Nat) (h : k < n) : ((bitsSum S k) ++ List.replicate (n - k) (0, 0)).set k (bitT S k) = bitsSum S (k + 1) ++ List.replicate (n - (k + 1)) (0, 0) := by
  obtain ⟨m, hm⟩ : ∃ m, n - k = m + 1 := ⟨n - k - 1, by omega⟩
  rw [hm, show n - (k + 1) = m by omega, List.replicate_succ, List.set_append_right _ _ (by rw [bitsSum_len]; exact Nat.le_refl _), bitsSum_len, Nat.sub_self, List.set_cons_zero]
  unfold bitsSum
  rw [List.range_succ, List.map_append]
  simp

/-- One term of one variable stays where a pair of zero cells is overwritten. -/
theorem LinT.skip {w : World} {s : Lc} {v : Int} {g k : Nat} {u u' : Value} (h : LinT w s) (hl : s.l = [(v, 1)]) (c0 : w.cell? ⟨g, k * 2, none⟩ = some (.int .i64 0)) (c1 : w.cell? ⟨g, k * 2 + 1, none⟩ = some (.int .u64 0)) :
    LinT ((w.setCell ⟨g, k * 2, none⟩ u).setCell ⟨g, k * 2 + 1, none⟩ u') s := by
  obtain ⟨b, off, cs', e2, g2⟩ := h.blk (by rw [hl]; simp)
  obtain ⟨b', off', e3, hlt, hc⟩ := h.ok.sl (by rw [hl]; simp)
  rw [e2] at e3
  cases e3
  have h0 := hc 0 (by rw [hl]; simp)
  rw [hl] at h0
  simp only [Nat.zero_mul, Nat.add_zero, List.getD_cons_zero] at h0
  have hz : ∀ j, (j = 0 ∨ j = 1) → ((w.setCell ⟨g, k * 2, none⟩ u).setCell ⟨g, k * 2 + 1, none⟩ u').cell? ⟨b, off + j, none⟩ = w.cell? ⟨b, off + j, none⟩ := fun j hj => by
    by_cases hb : g = b
    · subst hb
      have n1 : off ≠ k * 2 := fun e => by
        have := h0.2
        rw [e, c1] at this
        cases this
      have n2 : off ≠ k * 2 + 1 := fun e => by
        have := h0.1
        rw [e, c1] at this
        cases this
      have n3 : off + 1 ≠ k * 2 := fun e => by
        have := h0.2
        rw [e, c0] at this
        cases this
      have n4 : off + j ≠ k * 2 ∧ off + j ≠ k * 2 + 1 := by rcases hj with rfl | rfl <;> omega
      have q1 : (⟨g, k * 2 + 1, none⟩ : Addr) ≠ ⟨g, off + j, none⟩ := fun e => by injection e with _ e _; omega
      have q2 : (⟨g, k * 2, none⟩ : Addr) ≠ ⟨g, off + j, none⟩ := fun e => by injection e with _ e _; omega
      rw [World.cell?_setCell_other _ _ _ _ q1, World.cell?_setCell_other _ _ _ _ q2]
    · rw [World.cell?_setCell_far _ _ _ _ hb, World.cell?_setCell_far _ _ _ _ hb]
  have hlen : s.l.length = 1 := by rw [hl]; rfl
  refine ⟨⟨fun _ => ⟨b, off, e2, by simpa using hlt, fun i hi => ?_⟩, h.ok.wl, h.ok.le, h.ok.mx⟩, fun _ => ?_⟩
  · obtain rfl : i = 0 := by omega
    rw [hl]
    simp only [Nat.zero_mul, Nat.add_zero, List.getD_cons_zero]
    have z0 := hz 0 (.inl rfl)
    have z1 := hz 1 (.inr rfl)
    rw [Nat.add_zero] at z0
    exact ⟨z0.trans h0.1, z1.trans h0.2⟩
  · by_cases hb : g = b
    · subst hb
      exact ⟨g, off, _, e2, (g2.set _ _).set _ _⟩
    · exact ⟨b, off, _, e2, (g2.other hb _ _).other hb _ _⟩

def q3 (S : St) (k : Nat) : Int := S.vars + (k : Int) + 1
/-- The loop of Bits. -/
structure BitSt (w wr : World) (base b : Nat) (S : St) (x : Lin) (n k gb gs : Nat) (Ls : List Lc) : Prop where
  kept : Kept base w wr
  bld : Bld wr base b (bitsS S x k) (fun q => False ∨ q = gs)
  bits : OwnG lcL wr w.heap.size 44 (.slice (some ⟨gb, 0, none⟩) n n) Ls
  sum : OwnG tmL wr w.heap.size 100 (.slice (some ⟨gs, 0, none⟩) n n) (bitsSum S k ++ List.replicate (n - k) (0, 0))
  lb : ∀ i, i < k → LinT wr (Ls.getD i default) ∧ (Ls.getD i default).l = [(S.vars + (i : Int), 1)]

/-- What Bits returns. -/
def RetBits (w : World) (base b : Nat) (S : St) (x : Lin) (n : Nat) (e : Ending) (w' : World) : Prop := ∃ v Ls, e = .returned v ∧ OwnG lcL w' w.heap.size 44 v Ls ∧ Ls.length = n ∧ (∀ i, i < n → LinT w' (Ls.getD i default) ∧ (Ls.getD i default).l = [(S.vars + (i : Int), 1)]) ∧ Bld w' base b (gBits S x n) ∧ Kept base w w'

set_option maxRecDepth 10000 in
set_option maxHeartbeats 8000000 in
theorem Bits20_any (base b : Nat) (S : St) (N : Int) (x : Lc) (n : Nat) (w : World) (h : Bld w base b S) (hv : vld S.p = true) (hS : Bd S N) (hN : N ≤ 900000000) (hx : LinT w x) (lx : x.l.length ≤ 400000) (hn : n ≤ 62) :
    Calls Try.prog 50 #[.pointer (some ⟨b, 0, none⟩), .slice x.ad x.l.length x.cap, .int .i64 n] w (RetBits w base b S x.l n) := by
  have m1 := fun W => run_mkG lcL (P := Try.prog) (t := 55) (e := 44) Try.underlying55 Try.infoLc (by decide) (N := (n : Int)) (C := (n : Int)) n n rfl rfl (Nat.le_refl _) (by omega) W
  have m2 := fun W => run_mkG tmL (P := Try.prog) (t := 44) (e := 100) Try.underlying44 Try.infoTm (by decide) (N := (n : Int)) (C := (n : Int)) n n rfl rfl (Nat.le_refl _) (by omega) W
  have hb0 := h.lt
  go_enter Try.func50, Try.ntmps50
  have q1 : decide ((n : Int) < 0) = false := decide_eq_false (by omega)
  have q2 : decide ((62 : Int) < n) = false := decide_eq_false (by omega)
  go_wp2_with fail
  clear q1 q2
  have hB1 := (Below.refl w.heap.size w).alloc (Nat.le_refl _) (.cells (madeCells #[.slice none 0 0] (n * lcL.m)) 44)
  have hB2 := hB1.alloc hB1.size (.cells (madeCells #[.int .i64 0, .int .u64 0] (n * tmL.m)) 100)
  have o1 : OwnG lcL (w.alloc (.cells (madeCells #[.slice none 0 0] (n * lcL.m)) 44)) w.heap.size 44 (.slice (some ⟨w.heap.size, 0, none⟩) n n) (List.replicate n ⟨none, 0, []⟩) := OwnG.made (⟨none, 0, []⟩ : Lc) rfl (Nat.le_refl _) (by simp only [maxLen]; omega)
  have o2 : OwnG tmL ((w.alloc (.cells (madeCells #[.slice none 0 0] (n * lcL.m)) 44)).alloc (.cells (madeCells #[.int .i64 0, .int .u64 0] (n * tmL.m)) 100)) w.heap.size 100 (.slice (some ⟨w.heap.size + 1, 0, none⟩) n n) (List.replicate n (0, 0)) := by
    have := OwnG.made (L := tmL) (w := w.alloc (.cells (madeCells #[.slice none 0 0] (n * lcL.m)) 44)) (base := w.heap.size) (E := 100) (cap := n) (cs := #[.int .i64 0, .int .u64 0]) (0, 0) rfl (by simp) (by simp only [maxLen]; omega)
    simpa using this
  have S0 : BitSt w _ base b S x.l n 0 w.heap.size (w.heap.size + 1) (List.replicate n ⟨none, 0, []⟩) := ⟨Kept.of_below hB2 hb0, (h.avoid (g := w.heap.size + 1) (by omega)).mono hB2, o1.alloc _, o2, fun i hi => by omega⟩
  clear hB1 hB2 o1 o2 h m1 m2
  go_loopw [22] (fun t22 wr => ∃ k : Nat, k ≤ n ∧ t22 = .int .i64 k ∧ ∃ Ls, BitSt w wr base b S x.l n k w.heap.size (w.heap.size + 1) Ls) (fun t22 _ => n - (intOf t22).toNat)
  case atStart => exact ⟨0, Nat.zero_le _, rfl, _, S0⟩
  case round =>
    clear S0
    obtain ⟨k, hk, rfl, Ls, St⟩ := hrel
    by_cases hlt : k < n
    · have hlt' : (k : Int) < n := by omega
      have hx1 := St.kept.lin hx
      have hbd := bitsS_bd hS x.l k
      have hpk := bitsS_p S x.l k
      have hvk := bitsS_vars S x.l k
      have hgs : ∀ W : World, OwnG tmL W w.heap.size 100 (.slice (some ⟨w.heap.size + 1, 0, none⟩) n n) (bitsSum S k ++ List.replicate (n - k) (0, 0)) → ∀ q, (False ∨ q = w.heap.size + 1) → q < W.heap.size := fun W ho q hq => by
        rcases hq with hq | hq
        · exact hq.elim
        · rw [hq]; exact (ho.lt rfl).2
      have cH := hint20A_any _ base b (bitsS S x.l k) 3 x ⟨none, 0, []⟩ k wr St.bld (hgs _ St.sum) (by rw [hpk]; exact hv) hx1.ok (LinT.nil _).ok (by omega) (by simp) (by have := hbd.h; omega) ⟨hbd.v.1, by have := hbd.v.2; omega⟩ (by decide) (wfI ⟨by omega, by omega⟩)
      simp only [List.length_nil] at cH
      have hLl := hide St.bits.lenE
      have hq : Hid (q3 S k = (bitsS S x.l (k + 1)).vars) := hide (by rw [bitsS_vars]; unfold q3; omega)
      go_wp2_with fail
      refine cH.mono ?_
      rintro e w1 ⟨s, rfl, es, hs, hB1, k1⟩
      have bits1 := k1.ownG St.bits (by decide) (by decide) (by decide)
      have sum1 := k1.ownG St.sum (by decide) (by decide) (by decide)
      obtain ⟨_, cs1, gb1⟩ := bits1.blkE
      have hc1 := bits1.cellE (i := k) (j := 0) default (by have := hLl.out; omega) (by decide) rfl
      rw [show k * lcL.m + 0 = k from by show k * 1 + 0 = k; omega] at hc1
      have hf1 := gb1.free k
      have ls : s.l.length = 1 := by rw [es.out]; rfl
      have cB := fun W h1 hA h2 => Boolean20A_any (fun q => False ∨ q = w.heap.size + 1) base b (gHint (bitsS S x.l k) 3 x.l [] k) (N + 2 * k + 1) s W h1 hA hbd.hint (by omega) h2 (by omega)
      rw [show gBool (gHint (bitsS S x.l k) 3 x.l [] k) s.l = bitsS S x.l (k + 1) by rw [es.out]; rfl] at cB
      clear cH
      replace ls := hide ls
      go_wp2_with fail
      refine name_calls fun w2 hN => ?_
      have hs2 : LinT w2 s := by rw [hN]; exact hs.setType gb1 (by decide)
      have hB2 : Bld w2 base b (gHint (bitsS S x.l k) 3 x.l [] k) (fun q => False ∨ q = w.heap.size + 1) := by rw [hN]; exact hB1.other gb1 (by decide) (by decide) (by decide) k _ (fun q hq _ => hq.setType gb1 (by decide))
      have kp2 : Kept base w w2 := by rw [hN]; exact (St.kept.trans k1).setNew (g := w.heap.size) (j := k) (Nat.le_refl _) hb0 _
      have sum2 : OwnG tmL w2 w.heap.size 100 (.slice (some ⟨w.heap.size + 1, 0, none⟩) n n) (bitsSum S k ++ List.replicate (n - k) (0, 0)) := by rw [hN]; exact sum1.other (sum1.neq gb1 (by decide)) _
      have bits2 : OwnG lcL w2 w.heap.size 44 (.slice (some ⟨w.heap.size, 0, none⟩) n n) (Ls.set k s) := by rw [hN]; exact bits1.setLc k s
      have lb2 : ∀ i, i < k + 1 → LinT w2 ((Ls.set k s).getD i default) ∧ ((Ls.set k s).getD i default).l = [(S.vars + (i : Int), 1)] := fun i hi => by
        by_cases hik : i = k
        · subst hik
          rw [List.getD_eq_getElem?_getD, List.getElem?_set_self (by have := hLl.out; omega)]
          refine ⟨hs2, ?_⟩
          show s.l = _
          rw [es.out, hvk]
        · have hi2 : i < k := by omega
          rw [List.getD_eq_getElem?_getD, List.getElem?_set_ne (fun e => hik e.symm), ← List.getD_eq_getElem?_getD]
          refine ⟨?_, (St.lb i hi2).2⟩
          rw [hN]
          exact (k1.lin (St.lb i hi2).1).setType gb1 (by decide)
      clear hN hs hB1 k1 sum1 bits1 St gb1 hc1 hf1 hx1
      refine (cB w2 hB2 (hgs _ sum2) hs2).mono ?_
      rintro e w3 ⟨rfl, hB3, k3⟩
      have kp3 := kp2.trans k3
      have sum3 := k3.ownG sum2 (by decide) (by decide) (by decide)
      have bits3 := k3.ownG bits2 (by decide) (by decide) (by decide)
      have lb3 := fun i hi => (⟨k3.lin (lb2 i hi).1, (lb2 i hi).2⟩ : LinT w3 ((Ls.set k s).getD i default) ∧ ((Ls.set k s).getD i default).l = [(S.vars + (i : Int), 1)])
      clear cB hB2 hs2 kp2 sum2 bits2 lb2 k3 es ls
      have hq0 := hS.v.1
      have hq1 := hS.v.2
      obtain ⟨vr, R, vh, H, hB3'⟩ := id hB3
      have gB := hB3'.blk
      rw [← hq.out, bitsS_p] at gB
      have b0 := cell_later' (gB.cell (j := 0) (v := .int .u64 S.p) rfl)
      have b3 := cell_later' (gB.cell (j := 3) (v := .int .i64 (q3 S k)) rfl)
      have hq3 : 0 ≤ q3 S k ∧ q3 S k ≤ 900000100 := by unfold q3; omega
      clear hB3' gB
      have hpw : (2 : Int) ^ k < 18446744073709551616 ∧ 0 ≤ (2 : Int) ^ k := ⟨by
        have : 2 ^ k ≤ 2 ^ 62 := Nat.pow_le_pow_right (by decide) (by omega)
        have h2 : ((2 : Int) ^ k) = ((2 ^ k : Nat) : Int) := (Int.natCast_pow 2 k).symm
        rw [h2]; omega, Int.pow_nonneg (by decide)⟩
      have cRed := fun P => Reduce_any S.p ((2 : Int) ^ k) (later w3 P) hpw.2 hpw.1
      have hwp : IntKind.u64.wrap ((2 : Int) ^ k) = (2 : Int) ^ k := by rw [IntKind.wrap_u64]; omega
      have hwk : IntKind.i64.wrap (k : Int) = k := by rw [IntKind.wrap_i64]; omega
      have hwq : IntKind.i64.wrap (q3 S k - 1) = q3 S k - 1 := by rw [IntKind.wrap_i64]; omega
      have hk0 : (0 : Int) ≤ k := by omega
      go_wp2_with fail
      refine Rel.wp_region_later_tail 17 Try.mixed (by kernel_rfl) ?_
      simp only [List.take_succ_cons, List.take_zero, List.drop_succ_cons, List.drop_zero]
      repeat (first | go_big_quiet_step (first | (go_at_call 100; exact Calls.later_of (cRed _))) | quiet_step (first | (go_at_call 100; exact Calls.later_of (cRed _))))
      refine wpQuiet_nil ?_
      intro w4 hb4
      replace hb4 := below_of_later hb4
      clear b0 b3 cRed hwp hwk hq0 hq1
      have hLs2 : (bitsSum S k ++ List.replicate (n - k) ((0 : Int), (0 : Int))).length = n := by rw [List.length_append, bitsSum_len, List.length_replicate]; omega
      have hz : (bitsSum S k ++ List.replicate (n - k) ((0 : Int), (0 : Int))).getD k (0, 0) = (0, 0) := by
        rw [List.getD_eq_getElem?_getD, List.getElem?_append_right (by rw [bitsSum_len]; exact Nat.le_refl _), bitsSum_len, Nat.sub_self, List.getElem?_replicate, if_pos (by omega)]
        rfl
      have sum4 := sum3.mono hb4
      obtain ⟨_, cs4, gs4⟩ := sum4.blkE
      have z0 := sum4.cellE (i := k) (j := 0) (0, 0) (u := .int .i64 0) (by rw [hLs2]; exact hlt) (by decide) (by rw [hz]; rfl)
      have z1 := sum4.cellE (i := k) (j := 1) (0, 0) (u := .int .u64 0) (by rw [hLs2]; exact hlt) (by decide) (by rw [hz]; rfl)
      rw [show k * tmL.m + 0 = k * 2 from rfl] at z0
      rw [show k * tmL.m + 1 = k * 2 + 1 from rfl] at z1
      have zf := gs4.free
      have S4 : BitSt w ((w4.setCell ⟨w.heap.size + 1, k * 2, none⟩ (.int .i64 (q3 S k - 1))).setCell ⟨w.heap.size + 1, k * 2 + 1, none⟩ (.int .u64 (fred S.p ((2 : Int) ^ k)))) base b S x.l n (k + 1) w.heap.size (w.heap.size + 1) (Ls.set k s) := by
        have hk4 := (kp3.trans (Kept.of_below hb4 hB3.lt))
        refine ⟨(hk4.setNew (by omega) hb0 _).setNew (by omega) hb0 _, ?_, ((bits3.mono hb4).other ((bits3.mono hb4).neq gs4 (by decide)) _).other ((bits3.mono hb4).neq gs4 (by decide)) _, ?_, fun i hi => ⟨((lb3 i hi).1.mono hb4).skip (lb3 i hi).2 z0 z1, (lb3 i hi).2⟩⟩
        · exact ((hB3.mono hb4).other gs4 (by decide) (by decide) (by decide) (k * 2) _ (fun q hq ha => hq.setAv ha (.inr rfl))).other (gs4.set (k * 2) (.int .i64 (q3 S k - 1))) (by decide) (by decide) (by decide) (k * 2 + 1) _ (fun q hq ha => hq.setAv ha (.inr rfl))
        · have h1 := sum4.setTm k (by rw [hLs2]; exact hlt) (bitT S k)
          rw [bitsSum_next S n k hlt] at h1
          have e : (bitT S k) = (q3 S k - 1, fred S.p ((2 : Int) ^ k)) := by unfold bitT q3; congr 1; omega
          rw [e] at h1
          exact h1
      clear sum3 bits3 lb3 hB3 kp3 hb4 sum4 gs4 hz hLs2
      go_wp2
      go_roundw
      case rel => exact ⟨k + 1, by omega, by go_num, _, S4⟩
      case measure => simp [intOf]; omega
    · obtain rfl : k = n := by omega
      have hbd := bitsS_bd hS x.l k
      have hw : LinW (bitsSum S k) := fun t ht => by
        obtain ⟨i, hi, rfl⟩ := List.mem_map.1 ht
        have hi := List.mem_range.1 hi
        have hq0 := hS.v.1
        have hq1 := hS.v.2
        exact ⟨wfI (by simp only [bitT]; omega), wfU (fred_bd _ _)⟩
      have hsum := St.sum
      rw [Nat.sub_self, List.replicate_zero, List.append_nil] at hsum
      obtain ⟨t, et, lt, ht⟩ := hsum.lin hw
      have hx1 := St.kept.lin hx
      have cA := Assert20_any base b (bitsS S x.l k) (N + 2 * k) t x wr St.bld.forget (by rw [bitsS_p]; exact hv) hbd (by omega) ht hx1 (by rw [lt, bitsSum_len]; omega) (by omega)
      rw [← et, show gAssert (bitsS S x.l k) t.l x.l = gBits S x.l k by rw [lt]; rfl] at cA
      have hLl := hide St.bits.lenE
      have bits := St.bits
      have kp := St.kept
      have lb := St.lb
      clear St et lt ht hsum hx1 hw hbd
      go_wp2_with fail
      refine cA.mono ?_
      rintro e w2 ⟨rfl, hB2, k2⟩
      clear cA
      go_wp2
      go_ret
      exact ⟨_, Ls, rfl, k2.ownG bits (by decide) (by decide) (by decide), hLl.out.symm, fun i hi => ⟨k2.lin (lb i hi).1, (lb i hi).2⟩, hB2, kp.trans k2⟩
end Go.Proofs.Ytlgjnidphldiiaa

/- Gadgets: Less, Or of the program. -/
namespace Go.Proofs.Ytlgjnidphldiiaa
open Go.RowKit

/-- What Less returns, on values. -/
def lessX (p : Int) (n : Nat) (x y : Lin) : Lin := subL p (addL p (keepT (0, fred p ((2 : Int) ^ n))) x) y
def gLess (S : St) (x y : Lin) (n : Nat) : St × Lin := (gBits S (lessX S.p n x y) (n + 1), gNot S.p [(S.vars + (n : Int), 1)])

set_option maxRecDepth 10000 in
set_option maxHeartbeats 8000000 in
theorem Less20_any (base b : Nat) (S : St) (N : Int) (x y : Lc) (n : Nat) (w : World) (h : Bld w base b S) (hv : vld S.p = true) (hS : Bd S N) (hN : N ≤ 900000000) (hx : LinT w x) (hy : LinT w y) (lx : x.l.length ≤ 100000) (ly : y.l.length ≤ 100000) (hn : n ≤ 61) :
    Calls Try.prog 43 #[.pointer (some ⟨b, 0, none⟩), .slice x.ad x.l.length x.cap, .slice y.ad y.l.length y.cap, .int .i64 n] w (RetB w base b (gLess S x.l y.l n).1 (gLess S x.l y.l n).2) := by
  have hb0 := h.lt
  obtain ⟨cs, g, hc0⟩ := h.cell0
  have hpw : (2 : Int) ^ n < 18446744073709551616 ∧ 0 ≤ (2 : Int) ^ n := ⟨by
    have : 2 ^ n ≤ 2 ^ 62 := Nat.pow_le_pow_right (by decide) (by omega)
    have h2 : ((2 : Int) ^ n) = ((2 ^ n : Nat) : Int) := (Int.natCast_pow 2 n).symm
    rw [h2]; omega, Int.pow_nonneg (by decide)⟩
  have hwp : IntKind.u64.wrap ((2 : Int) ^ n) = (2 : Int) ^ n := by rw [IntKind.wrap_u64]; omega
  have hwn : IntKind.i64.wrap (n : Int) = n := by rw [IntKind.wrap_i64]; omega
  have hwn1 : IntKind.i64.wrap ((n : Int) + 1) = n + 1 := by rw [IntKind.wrap_i64]; omega
  have hk0 : (0 : Int) ≤ n := by omega
  have q1 : decide ((n : Int) < 0) = false := decide_eq_false (by omega)
  have q2 : decide ((62 : Int) ≤ n) = false := decide_eq_false (by omega)
  have c0 := cell_later' (g.cell hc0)
  go_enter Try.func43, Try.ntmps43
  go_wp2_with fail
  refine Rel.wp_region_later_tail 7 Try.mixed (by kernel_rfl) ?_
  simp only [List.take_succ_cons, List.take_zero, List.drop_succ_cons, List.drop_zero]
  repeat (first | go_big_quiet_step (first | fail) | quiet_step (first | fail))
  refine wpQuiet_nil ?_
  intro w1 hb1
  replace hb1 := below_of_later hb1
  have cC := Constant20_any S.p ((2 : Int) ^ n) w1 ⟨hpw.2, hpw.1⟩
  go_wp2_with fail
  refine cC.mono ?_
  rintro e w2 ⟨c, rfl, ec, hc, hb2⟩
  replace hb1 := below2 hb1 hb2
  clear hb2 cC c0 hwp hwn q2
  have g2 := g.mono hb1
  have c0 := cell_later' (g2.cell hc0)
  have lc : c.l.length ≤ 1 := by rw [ec.out]; unfold keepT; split <;> simp
  go_wp2_with fail
  refine Rel.wp_region_mix 18 [] [(13, IsLn (addL S.p c.l x.l)), (15, IsLn (subL S.p (addL S.p c.l x.l) y.l))] Try.mixed (by kernel_rfl) (by kernel_rfl) ?_ ?_
  rotate_left
  simp only [List.take_succ_cons, List.take_zero, List.drop_succ_cons, List.drop_zero, List.map_cons, List.map_nil]
  repeat (first | (refine Rel.wpA_b (by rfl) ?_) | (refine Rel.wpA_step (by rfl) fun K hK => ?_; go_simp; first | (refine hK _ ?_; clear hK K) | (apply Exists.intro; refine ⟨fun _ => ?_, hK _ ?_⟩; (first | fail); clear hK K)))
  refine Rel.wpA_nil ?_
  rotate_left
  · intro z hz v u u' h1 h2
    simp only [List.mem_cons, List.not_mem_nil, or_false] at hz
    rcases hz with rfl | rfl
    · exact IsLn.mono h1 h2
    · exact IsLn.mono h1 h2
  refine Rel.wpB_step _ rfl rfl (fun p' hq => ?_) (fun v13 => ?_)
  · refine rU_of' (fr := false) (r := .ok (.enter 26 #[.int .u64 S.p, .slice c.ad c.l.length c.cap, .slice x.ad x.l.length x.cap]) (later w2 p')) (by kernel_rfl) (by kernel_rfl) ?_
    exact rU_ln (gAdd_any S.p c x _ (hc.mono (below_later _ _)).ok ((hx.mono hb1).mono (below_later _ _)).ok (fun _ => by omega))
  refine Rel.wpB_step _ rfl rfl (fun p' hq => ?_) (fun v15 => ?_)
  · have h13 : IsLn (addL S.p c.l x.l) v13 (later w2 p') := hq _ (List.Mem.head _) (by kernel_rfl)
    obtain ⟨a, rfl, ea, ha⟩ := h13
    refine rU_of' (fr := false) (r := .ok (.enter 28 #[.int .u64 S.p, .slice a.ad a.l.length a.cap, .slice y.ad y.l.length y.cap]) (later w2 p')) (by kernel_rfl) (by kernel_rfl) ?_
    have la := addP_len S.p c.l x.l 1
    have := gSub_any S.p a y (later w2 p') ha.ok ((hy.mono hb1).mono (below_later _ _)).ok (fun _ => by rw [ea.out]; unfold addL; omega)
    rw [show addP S.p a.l y.l (fneg S.p 1) = subL S.p (addL S.p c.l x.l) y.l by rw [ea.out]; rfl] at this
    exact rU_ln this
  refine Rel.wpB_nil ?_
  intro p' hctx hfr
  simp only [List.nil_append, List.cons_append, List.mem_cons, List.not_mem_nil, or_false, forall_eq_or_imp, forall_eq] at hctx
  obtain ⟨_, ⟨d, rfl, ed, hd⟩⟩ := hctx
  have hb3 := below_later w2 p'
  clear hfr c0
  generalize later w2 p' = w3 at *
  replace hb1 := below2 hb1 hb3
  clear hb3
  have la := addP_len S.p c.l x.l 1
  have ls := addP_len S.p (addL S.p c.l x.l) y.l (fneg S.p 1)
  have ld : d.l.length ≤ 400000 := by rw [ed.out]; unfold subL; unfold addL at ls ⊢; omega
  have cB := Bits20_any base b S N d (n + 1) w3 (h.mono hb1) hv hS hN hd ld (by omega)
  rw [show d.l = lessX S.p n x.l y.l by rw [ed.out, ec.out]; rfl] at cB
  rw [show (lessX S.p n x.l y.l).length = d.l.length by rw [ed.out, ec.out]; rfl] at cB
  push_cast at cB
  clear la ls lc hc hx hy
  go_wp2_with fail
  refine cB.mono ?_
  rintro e w4 ⟨v4, Ls, rfl, o4, hLl, hLs, hB4, k4⟩
  clear cB
  rcases o4.form with ⟨_, h0⟩ | ⟨gb, cap, cur, e4, _, gb4, hcap, _⟩
  · rw [h0] at hLl; simp at hLl
  subst e4
  have he := o4.cellE (i := n) (j := 0) default (by omega) (by decide) rfl
  rw [show n * lcL.m + 0 = n from by show n * 1 + 0 = n; omega] at he
  obtain ⟨hz, ez⟩ := hLs n (by omega)
  generalize Ls.getD n default = z at *
  have he' : w4.cell? ⟨gb, n, none⟩ = some (.slice z.ad z.l.length z.cap) := he
  obtain ⟨cs4, g4, hc4⟩ := hB4.cell0
  rw [show (gBits S (lessX S.p n x.l y.l) (n + 1)).p = S.p from bitsS_p S _ (n + 1)] at hc4
  have cN := Not20_any b cs4 _ S.p z w4 g4 hc4 hv hz.ok (by rw [ez]; simp)
  rw [show gNot S.p z.l = (gLess S x.l y.l n).2 by rw [ez]; rfl] at cN
  have hnl : (n : Int) < Ls.length := by omega
  replace hLl := hide hLl
  replace ez := hide ez
  clear he hLs hcap
  go_wp2_with fail
  refine cN.mono ?_
  rintro e w5 ⟨r, rfl, er, hr, hb5⟩
  clear cN
  go_wp2
  go_ret
  exact ⟨r, rfl, er, hr, hB4.mono hb5, ((Kept.of_below hb1 hb0).trans k4).trans (Kept.of_below hb5 hB4.lt)⟩

set_option maxRecDepth 10000 in
set_option maxHeartbeats 4000000 in
theorem Or20_any (base b : Nat) (S : St) (N : Int) (x y : Lc) (w : World) (h : Bld w base b S) (hv : vld S.p = true) (hS : Bd S N) (hN : N ≤ 900000000) (hx : LinT w x) (hy : LinT w y) (lx : x.l.length ≤ 100000) (ly : y.l.length ≤ 100000) :
    Calls Try.prog 47 #[.pointer (some ⟨b, 0, none⟩), .slice x.ad x.l.length x.cap, .slice y.ad y.l.length y.cap] w (RetB w base b (gOr S x.l y.l).1 (gOr S x.l y.l).2) := by
  have cM := Mul20_any base b S N x y w h hv hS (by omega) hx hy (by omega) (by omega)
  go_enter Try.func47, Try.ntmps47
  go_wp2_with fail
  refine cM.mono ?_
  rintro e w2 ⟨m, rfl, em, hm, hB2, k2⟩
  obtain ⟨cs, g2, hc0⟩ := hB2.cell0
  have c0 := cell_later' (g2.cell hc0)
  have lm : m.l.length = 1 := by rw [em.out]; rfl
  replace lm := hide lm
  replace hx := k2.lin hx
  replace hy := k2.lin hy
  clear cM
  go_wp2_with fail
  refine Rel.wp_region_mix 14 [] [(12, IsLn (addL S.p x.l y.l))] Try.mixed (by kernel_rfl) (by kernel_rfl) ?_ ?_
  rotate_left
  simp only [List.take_succ_cons, List.take_zero, List.drop_succ_cons, List.drop_zero, List.map_cons, List.map_nil]
  repeat (first | (refine Rel.wpA_b (by rfl) ?_) | (refine Rel.wpA_step (by rfl) fun K hK => ?_; go_simp; first | (refine hK _ ?_; clear hK K) | (apply Exists.intro; refine ⟨fun _ => ?_, hK _ ?_⟩; (first | fail); clear hK K)))
  refine Rel.wpA_nil ?_
  rotate_left
  · intro z hz v u u' h1 h2
    simp only [List.mem_cons, List.not_mem_nil, or_false] at hz
    subst hz
    exact IsLn.mono h1 h2
  refine Rel.wpB_step _ rfl rfl (fun p' hq => ?_) (fun v12 => ?_)
  · refine rU_of' (fr := false) (r := .ok (.enter 26 #[.int .u64 S.p, .slice x.ad x.l.length x.cap, .slice y.ad y.l.length y.cap]) (later w2 p')) (by kernel_rfl) (by kernel_rfl) ?_
    exact rU_ln (gAdd_any S.p x y _ (hx.mono (below_later _ _)).ok (hy.mono (below_later _ _)).ok (fun _ => by omega))
  refine Rel.wpB_nil ?_
  intro p' hctx hfr
  simp only [List.nil_append, List.mem_cons, List.not_mem_nil, or_false, forall_eq] at hctx
  obtain ⟨a, rfl, ea, ha⟩ := hctx
  have hb3 := below_later w2 p'
  clear hfr c0
  generalize later w2 p' = w3 at *
  have la := addP_len S.p x.l y.l 1
  have cS := gSub_any S.p a m w3 ha.ok (hm.mono hb3).ok (fun _ => by rw [ea.out, lm.out]; unfold addL; omega)
  rw [show addP S.p a.l m.l (fneg S.p 1) = (gOr S x.l y.l).2 by rw [ea.out, em.out]; rfl] at cS
  clear la hx hy
  go_wp2_with fail
  refine cS.mono ?_
  rintro e w4 ⟨r, rfl, er, hr, hb4⟩
  clear cS
  go_wp2
  go_ret
  exact ⟨r, rfl, er, hr, hB2.mono (below2 hb3 hb4), k2.trans (Kept.of_below (below2 hb3 hb4) hB2.lt)⟩
end Go.Proofs.Ytlgjnidphldiiaa
