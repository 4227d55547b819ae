/- Gadgets: slices that are filled element by element, beside a builder. -/
import Derived.Test.YtlgjnidphldiiaaGadI
namespace Go.Proofs.Ytlgjnidphldiiaa
open Go.RowKit

/-- A slice of linear combinations. -/
def lcL : Lay Lc := ⟨fun s => [lcV s], 1, fun _ => rfl, by decide, fun x u hu => by
  rw [List.mem_singleton] at hu; subst hu; rfl⟩
theorem Try.infoLc : (Try.prog.info? 44).map (fun i => (i.zero, i.size, i.bytes)) = some (some (.slice none 0 0), 1, 24) := by kernel_rfl

theorem flat1 (xs : List Lc) : xs.flatMap lcL.f = xs.map lcV := by
  induction xs with
  | nil => rfl
  | cons x xs ih => rw [List.flatMap_cons, ih]; rfl
theorem flat2_set : ∀ (xs : Lin) (i : Nat) (t : Int × Int), i < xs.length → ((xs.flatMap tmL.f).set (i * 2) (.int .i64 t.1)).set (i * 2 + 1) (.int .u64 t.2) = (xs.set i t).flatMap tmL.f
  | x :: xs, 0, t, _ => rfl
  | x :: xs, i + 1, t, h => by
    have ih := flat2_set xs i t (by simpa using h)
    rw [List.set_cons_succ, List.flatMap_cons, List.flatMap_cons, ← ih, show (i + 1) * 2 = i * 2 + 2 by omega]
    rfl

theorem OwnG.made {α : Type} {L : Lay α} {w : World} {base cap : Nat} {E : TypeId} {cs : Array Value} (d : α) (hcs : cs.toList = L.f d) (hb : base ≤ w.heap.size) (hm : cap ≤ maxLen) :
    OwnG L (w.alloc (.cells (madeCells cs (cap * L.m)) E)) base E (.slice (some ⟨w.heap.size, 0, none⟩) cap cap) (List.replicate cap d) := by
  have hsz : cs.size = L.m := by rw [← Array.length_toList, hcs, L.len]
  have h := OwnG.of_blk (L := L) (xs := List.replicate cap d) (cap := cap) hb (Blk.new w (madeCells cs (cap * L.m)) E) (by simp) hm (by simp [madeCells]) (by
    rw [List.length_replicate, List.take_of_length_le (by simp [madeCells])]
    refine List.ext_getElem? fun k => ?_
    by_cases hk : k < cap * L.m
    · have hj : k % L.m < L.m := Nat.mod_lt _ L.pos
      have hi : k / L.m < cap := Nat.div_lt_of_lt_mul (by rw [Nat.mul_comm]; exact hk)
      have e : k = k / L.m * L.m + k % L.m := by rw [Nat.mul_comm]; exact (Nat.div_add_mod k L.m).symm
      have h2 := L.flat_get (List.replicate cap d) d (i := k / L.m) (j := k % L.m) (by simpa using hi) hj
      rw [← e] at h2
      rw [h2, List.getD_eq_getElem?_getD, List.getElem?_replicate, if_pos hi, Option.getD_some, ← hcs]
      unfold madeCells
      rw [Array.getElem?_toList, Array.getElem?_map, Array.getElem?_range, if_pos hk, Array.getElem?_toList, Option.map_some, hsz]
      have hl : k % L.m < cs.size := by rw [hsz]; exact hj
      rw [Array.getElem?_eq_getElem hl]
      simp [hl]
    · rw [List.getElem?_eq_none (by simp [madeCells]; omega), List.getElem?_eq_none (by rw [L.flat_len, List.length_replicate]; omega)])
  rw [List.length_replicate] at h
  exact h

section
variable {w : World} {base g n cap : Nat} {E : TypeId}
theorem OwnG.setLc {xs : List Lc} (h : OwnG lcL w base E (.slice (some ⟨g, 0, none⟩) n cap) xs) (i : Nat) (s : Lc) : OwnG lcL (w.setCell ⟨g, i, none⟩ (lcV s)) base E (.slice (some ⟨g, 0, none⟩) n cap) (xs.set i s) := by
  rcases h.form with ⟨h0, _⟩ | ⟨g', cap', cur, h0, h1, h2, h3, h4, h5, h6⟩
  · cases h0
  · cases h0
    have := OwnG.of_blk (L := lcL) (w := w.setCell ⟨g, i, none⟩ (lcV s)) (xs := xs.set i s) (cap := cap) h1 (h2.set i (lcV s)) (by simpa using h3) h4 (by simpa using h5) (by
      rw [Array.toList_setIfInBounds, List.length_set, flat1, List.map_set, ← flat1, ← h6, List.take_set])
    rw [List.length_set] at this
    exact this
theorem OwnG.setTm {xs : Lin} (h : OwnG tmL w base E (.slice (some ⟨g, 0, none⟩) n cap) xs) (i : Nat) (hi : i < xs.length) (t : Int × Int) :
    OwnG tmL ((w.setCell ⟨g, i * 2, none⟩ (.int .i64 t.1)).setCell ⟨g, i * 2 + 1, none⟩ (.int .u64 t.2)) base E (.slice (some ⟨g, 0, none⟩) n cap) (xs.set i t) := by
  rcases h.form with ⟨h0, _⟩ | ⟨g', cap', cur, h0, h1, h2, h3, h4, h5, h6⟩
  · cases h0
  · cases h0
    have := OwnG.of_blk (L := tmL) (w := (w.setCell ⟨g, i * 2, none⟩ (.int .i64 t.1)).setCell ⟨g, i * 2 + 1, none⟩ (.int .u64 t.2)) (xs := xs.set i t) (cap := cap) h1 ((h2.set (i * 2) (.int .i64 t.1)).set (i * 2 + 1) (.int .u64 t.2)) (by simpa using h3) h4 (by simpa using h5) (by
      rw [Array.toList_setIfInBounds, Array.toList_setIfInBounds, List.length_set, ← flat2_set xs i t hi, ← h6, List.take_set, List.take_set])
    rw [List.length_set] at this
    exact this
theorem OwnG.blkE {α : Type} {L : Lay α} {xs : List α} (h : OwnG L w base E (.slice (some ⟨g, 0, none⟩) n cap) xs) : base ≤ g ∧ ∃ cs, Blk w g cs E := by
  rcases h.form with ⟨h0, _⟩ | ⟨g', cap', cur, h0, h1, h2, _⟩
  · cases h0
  · cases h0; exact ⟨h1, cur, h2⟩
theorem OwnG.lenE {α : Type} {L : Lay α} {xs : List α} (h : OwnG L w base E (.slice (some ⟨g, 0, none⟩) n cap) xs) : n = xs.length := by
  rcases h.form with ⟨h0, _⟩ | ⟨g', cap', cur, h0, h1, h2, _⟩
  · cases h0
  · cases h0; rfl
theorem OwnG.slE {α : Type} {L : Lay α} {ad : Option Addr} {xs : List α} (h : OwnG L w base E (.slice ad n cap) xs) : SlG L w ad xs := by
  obtain ⟨a, c, e, hs, _⟩ := h.sl
  cases e
  exact hs
/-- The cells of an element. -/
theorem OwnG.cellE {α : Type} {L : Lay α} {xs : List α} (d : α) (h : OwnG L w base E (.slice (some ⟨g, 0, none⟩) n cap) xs) {i j : Nat} {u : Value} (hi : i < xs.length) (hj : j < L.m) (hu : (L.f (xs.getD i d))[j]? = some u) : w.cell? ⟨g, i * L.m + j, none⟩ = some u := by
  obtain ⟨b, off, e, _, hc⟩ := h.slE (by omega)
  cases e
  have := hc (i * L.m + j) u (by rw [L.flat_get xs d hi hj]; exact hu)
  rwa [Nat.zero_add] at this
end

theorem Kept.ownG {α : Type} {L : Lay α} {w w' : World} {base b0 : Nat} {E : TypeId} {v : Value} {xs : List α} (k : Kept base w w') (h : OwnG L w b0 E v xs) (h1 : E ≠ 106) (h2 : E ≠ 108) (h3 : E ≠ 104) : OwnG L w' b0 E v xs := by
  rcases h.form with ⟨rfl, rfl⟩ | ⟨g, cap, cur, rfl, g1, g2, g3, g4, g5, g6⟩
  · exact OwnG.nil _ _ _ _
  · exact OwnG.of_blk g1 (k.typ g cur E g2 h1 h2 h3) g3 g4 g5 g6
/-- A cell of a block that was not there at first. -/
theorem Kept.setNew {base : Nat} {w wr : World} (k : Kept base w wr) {g j : Nat} (hg : w.heap.size ≤ g) (hb : base ≤ w.heap.size) (u : Value) : Kept base w (wr.setCell ⟨g, j, none⟩ u) :=
  ⟨k.below.setCell (by show base ≤ g; omega) _, fun b cs T gb h1 h2 h3 => (k.typ b cs T gb h1 h2 h3).other (fun e => by subst e; have := gb.lt; omega) _ _⟩
theorem Bld.other {w : World} {base b g : Nat} {S : St} {cs : Array Value} {E : TypeId} {A : Nat → Prop} (h : Bld w base b S A) (gb : Blk w g cs E) (h1 : E ≠ 106) (h2 : E ≠ 108) (h3 : E ≠ 104) (j : Nat) (u : Value) (hl : ∀ s, LinT w s → Av A s → LinT (w.setCell ⟨g, j, none⟩ u) s) : Bld (w.setCell ⟨g, j, none⟩ u) base b S A := by
  obtain ⟨vr, R, vh, H, h⟩ := h
  exact ⟨vr, R, vh, H, h.blk.other (fun e => by subst e; exact h3 (blk_type gb h.blk)) _ _, h.lo, h.rows.other (h.rows.neq gb (fun e => h1 e.symm)) _, h.hints.other (h.hints.neq gb (fun e => h2 e.symm)) _,
    fun r hr => ⟨hl _ (h.rok r hr).1 (h.rav r hr).1, hl _ (h.rok r hr).2.1 (h.rav r hr).2.1, hl _ (h.rok r hr).2.2 (h.rav r hr).2.2⟩, fun r hr => ⟨hl _ (h.hok r hr).1 (h.hav r hr).1, hl _ (h.hok r hr).2.1 (h.hav r hr).2, (h.hok r hr).2.2⟩, h.rv, h.hv, h.rav, h.hav⟩
theorem LinT.setType {w : World} {s : Lc} {g j : Nat} {cs : Array Value} {E : TypeId} {u : Value} (h : LinT w s) (gb : Blk w g cs E) (hE : E ≠ 100) : LinT (w.setCell ⟨g, j, none⟩ u) s := by
  by_cases e : s.l = []
  · exact ⟨lc_nil h.ok e _, fun h0 => absurd e h0⟩
  · obtain ⟨b, off, cs', e2, g2⟩ := h.blk e
    have hne : g ≠ b := fun e => by subst e; exact hE (blk_type gb g2)
    refine ⟨⟨fun h0 => ?_, h.ok.wl, h.ok.le, h.ok.mx⟩, fun _ => ⟨b, off, cs', e2, g2.other hne _ _⟩⟩
    obtain ⟨b', off', e3, hl, hc⟩ := h.ok.sl h0
    rw [e2] at e3
    cases e3
    exact ⟨b, off, e2, by simpa using hl, fun i hi => ⟨by rw [World.cell?_setCell_far _ _ _ _ hne]; exact (hc i hi).1, by rw [World.cell?_setCell_far _ _ _ _ hne]; exact (hc i hi).2⟩⟩
/-- A cell of a block that its combination avoids. -/
theorem LinT.setAv {w : World} {s : Lc} {g j : Nat} {u : Value} {A : Nat → Prop} (h : LinT w s) (ha : Av A s) (hg : A g) : LinT (w.setCell ⟨g, j, none⟩ u) s := by
  by_cases e : s.l = []
  · exact ⟨lc_nil h.ok e _, fun h0 => absurd e h0⟩
  · obtain ⟨b, off, cs', e2, g2⟩ := h.blk e
    have hne : g ≠ b := fun e3 => ha e _ e2 (by rw [← e3]; exact hg)
    refine ⟨⟨fun h0 => ?_, h.ok.wl, h.ok.le, h.ok.mx⟩, fun _ => ⟨b, off, cs', e2, g2.other hne _ _⟩⟩
    obtain ⟨b', off', e3, hl, hc⟩ := h.ok.sl h0
    rw [e2] at e3
    cases e3
    exact ⟨b, off, e2, by simpa using hl, fun i hi => ⟨by rw [World.cell?_setCell_far _ _ _ _ hne]; exact (hc i hi).1, by rw [World.cell?_setCell_far _ _ _ _ hne]; exact (hc i hi).2⟩⟩
end Go.Proofs.Ytlgjnidphldiiaa
