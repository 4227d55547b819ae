/- Gadgets: Circuit of the program: a copy of the circuit. -/
import Derived.Test.YtlgjnidphldiiaaQGadN
namespace Go.Proofs.Ytlgjnidphldiiaa
open Go.RowKit

theorem flat3_set : ∀ (xs : List Rw) (i : Nat) (t : Rw), i < xs.length → (((xs.flatMap rwL.f).set (i * 3) (lcV t.a)).set (i * 3 + 1) (lcV t.b)).set (i * 3 + 2) (lcV t.c) = (xs.set i t).flatMap rwL.f
  | x :: xs, 0, t, _ => rfl
  | x :: xs, i + 1, t, h => by
    have ih := flat3_set xs i t (by simpa using h)
    rw [List.set_cons_succ, List.flatMap_cons, List.flatMap_cons, ← ih, show (i + 1) * 3 = i * 3 + 3 by omega]
    rfl
theorem flat4_set : ∀ (xs : List Hn) (i : Nat) (t : Hn), i < xs.length → (xs.getD i default).k = t.k → (xs.getD i default).bit = t.bit → ((xs.flatMap hnL.f).set (i * 4 + 1) (lcV t.a)).set (i * 4 + 2) (lcV t.b) = (xs.set i t).flatMap hnL.f
  | x :: xs, 0, t, _, h1, h2 => by
    have h1 : x.k = t.k := h1
    have h2 : x.bit = t.bit := h2
    rw [List.set_cons_zero, List.flatMap_cons, List.flatMap_cons]
    show _ = [Value.int .i64 t.k, lcV t.a, lcV t.b, .int .i64 t.bit] ++ _
    rw [← h1, ← h2]
    rfl
  | x :: xs, i + 1, t, h, h1, h2 => by
    have ih := flat4_set xs i t (by simpa using h) h1 h2
    rw [List.set_cons_succ, List.flatMap_cons, List.flatMap_cons, ← ih, show (i + 1) * 4 = i * 4 + 4 by omega]
    rfl
section
variable {w : World} {base g n cap : Nat} {E : TypeId}
theorem OwnG.setRw {xs : List Rw} (h : OwnG rwL w base E (.slice (some ⟨g, 0, none⟩) n cap) xs) (i : Nat) (hi : i < xs.length) (t : Rw) :
    OwnG rwL (((w.setCell ⟨g, i * 3, none⟩ (lcV t.a)).setCell ⟨g, i * 3 + 1, none⟩ (lcV t.b)).setCell ⟨g, i * 3 + 2, none⟩ (lcV t.c)) base E (.slice (some ⟨g, 0, none⟩) n cap) (xs.set i t) := by
  rcases h.form with ⟨h0, _⟩ | ⟨g', cap', cur, h0, h1, h2, h3, h4, h5, h6⟩
  · cases h0
  · cases h0
    have := OwnG.of_blk (L := rwL) (w := ((w.setCell ⟨g, i * 3, none⟩ (lcV t.a)).setCell ⟨g, i * 3 + 1, none⟩ (lcV t.b)).setCell ⟨g, i * 3 + 2, none⟩ (lcV t.c)) (xs := xs.set i t) (cap := cap) h1 (((h2.set (i * 3) (lcV t.a)).set (i * 3 + 1) (lcV t.b)).set (i * 3 + 2) (lcV t.c)) (by simpa using h3) h4 (by simpa using h5) (by
      rw [Array.toList_setIfInBounds, Array.toList_setIfInBounds, Array.toList_setIfInBounds, List.length_set, ← flat3_set xs i t hi, ← h6, List.take_set, List.take_set, List.take_set])
    rw [List.length_set] at this
    exact this
theorem OwnG.setHn {xs : List Hn} (h : OwnG hnL w base E (.slice (some ⟨g, 0, none⟩) n cap) xs) (i : Nat) (hi : i < xs.length) (t : Hn) (e1 : (xs.getD i default).k = t.k) (e2 : (xs.getD i default).bit = t.bit) :
    OwnG hnL ((w.setCell ⟨g, i * 4 + 1, none⟩ (lcV t.a)).setCell ⟨g, i * 4 + 2, none⟩ (lcV t.b)) base E (.slice (some ⟨g, 0, none⟩) n cap) (xs.set i t) := by
  rcases h.form with ⟨h0, _⟩ | ⟨g', cap', cur, h0, h1, h2, h3, h4, h5, h6⟩
  · cases h0
  · cases h0
    have := OwnG.of_blk (L := hnL) (w := (w.setCell ⟨g, i * 4 + 1, none⟩ (lcV t.a)).setCell ⟨g, i * 4 + 2, none⟩ (lcV t.b)) (xs := xs.set i t) (cap := cap) h1 ((h2.set (i * 4 + 1) (lcV t.a)).set (i * 4 + 2) (lcV t.b)) (by simpa using h3) h4 (by simpa using h5) (by
      rw [Array.toList_setIfInBounds, Array.toList_setIfInBounds, List.length_set, ← flat4_set xs i t hi e1 e2, ← h6, List.take_set, List.take_set])
    rw [List.length_set] at this
    exact this
end
theorem map_set_same {α β : Type} {f : α → β} {xs : List α} {i : Nat} {d t : α} (hi : i < xs.length) (h : f t = f (xs.getD i d)) : (xs.set i t).map f = xs.map f := by
  rw [List.map_set, h]
  refine List.ext_getElem? fun k => ?_
  by_cases hk : k = i
  · subst hk
    rw [List.getElem?_set_self (by simpa using hi), List.getElem?_map, List.getElem?_eq_getElem hi, List.getD_eq_getElem?_getD, List.getElem?_eq_getElem hi]
    rfl
  · rw [List.getElem?_set_ne (fun e => hk e.symm)]

/-- Two blocks of the call's own, and the copy of the rows. -/
structure CirR (w wr : World) (cs : Array Value) (v : Value) (Rk : List Rw) (VR : List Row3) : Prop where
  b : Below w.heap.size w wr
  gX : Blk wr w.heap.size #[.int .u64 0, .int .i64 0, .int .i64 0, .slice none 0 0, .int .i64 0, .slice none 0 0] 37
  g3 : Blk wr (w.heap.size + 1) cs 37
  o : OwnG rwL wr w.heap.size 106 v Rk
  rv : Rk.map Rw.val = VR
  ok : ∀ r ∈ Rk, LinT wr r.a ∧ LinT wr r.b ∧ LinT wr r.c
theorem CirR.mono {w wr w2 : World} {cs : Array Value} {v : Value} {Rk : List Rw} {VR : List Row3} (h : CirR w wr cs v Rk VR) (hb : Below wr.heap.size wr w2) : CirR w w2 cs v Rk VR :=
  ⟨below2 h.b hb, h.gX.mono hb, h.g3.mono hb, h.o.mono hb, h.rv, fun r hr => ⟨(h.ok r hr).1.mono hb, (h.ok r hr).2.1.mono hb, (h.ok r hr).2.2.mono hb⟩⟩
theorem CirR.set {w wr : World} {cs : Array Value} {g n c i : Nat} {Rk : List Rw} {VR : List Row3} {t : Rw} (h : CirR w wr cs (.slice (some ⟨g, 0, none⟩) n c) Rk VR) (hi : i < Rk.length) (ht : t.val = (Rk.getD i default).val) (h1 : LinT wr t.a ∧ LinT wr t.b ∧ LinT wr t.c) :
    CirR w (((wr.setCell ⟨g, i * 3, none⟩ (lcV t.a)).setCell ⟨g, i * 3 + 1, none⟩ (lcV t.b)).setCell ⟨g, i * 3 + 2, none⟩ (lcV t.c)) cs (.slice (some ⟨g, 0, none⟩) n c) (Rk.set i t) VR := by
  obtain ⟨hg, cs0, gb⟩ := h.o.blkE
  have n0 : g ≠ w.heap.size := fun e => by subst e; exact absurd (blk_type gb h.gX) (by decide)
  have n1 : g ≠ w.heap.size + 1 := fun e => by subst e; exact absurd (blk_type gb h.g3) (by decide)
  have hl : ∀ s, LinT wr s → LinT (((wr.setCell ⟨g, i * 3, none⟩ (lcV t.a)).setCell ⟨g, i * 3 + 1, none⟩ (lcV t.b)).setCell ⟨g, i * 3 + 2, none⟩ (lcV t.c)) s := fun s hs =>
    ((hs.setType gb (by decide)).setType (gb.set _ _) (by decide)).setType ((gb.set _ _).set _ _) (by decide)
  refine ⟨((h.b.setCell (by exact hg) _).setCell (by exact hg) _).setCell (by exact hg) _, ((h.gX.other n0 _ _).other n0 _ _).other n0 _ _, ((h.g3.other n1 _ _).other n1 _ _).other n1 _ _, h.o.setRw i hi t, by rw [map_set_same hi ht, h.rv], fun r hr => ?_⟩
  rcases List.mem_or_eq_of_mem_set hr with h2 | h2
  · exact ⟨hl _ (h.ok r h2).1, hl _ (h.ok r h2).2.1, hl _ (h.ok r h2).2.2⟩
  · subst h2
    exact ⟨hl _ h1.1, hl _ h1.2.1, hl _ h1.2.2⟩

/-- The copy of the hints besides. -/
structure CirH (w wr : World) (cs : Array Value) (v : Value) (Rk : List Rw) (VR : List Row3) (u : Value) (Hk : List Hn) (VH : List Hint4) : Prop where
  r : CirR w wr cs v Rk VR
  o : OwnG hnL wr w.heap.size 108 u Hk
  hv : Hk.map Hn.val = VH
  ok : ∀ q ∈ Hk, LinT wr q.a ∧ LinT wr q.b ∧ (Lit.int .i64 q.k).wf = true ∧ (Lit.int .i64 q.bit).wf = true
theorem CirH.mono {w wr w2 : World} {cs : Array Value} {v u : Value} {Rk : List Rw} {VR : List Row3} {Hk : List Hn} {VH : List Hint4} (h : CirH w wr cs v Rk VR u Hk VH) (hb : Below wr.heap.size wr w2) : CirH w w2 cs v Rk VR u Hk VH :=
  ⟨h.r.mono hb, h.o.mono hb, h.hv, fun q hq => ⟨(h.ok q hq).1.mono hb, (h.ok q hq).2.1.mono hb, (h.ok q hq).2.2⟩⟩
theorem CirR.setOther {w wr : World} {cs : Array Value} {v : Value} {Rk : List Rw} {VR : List Row3} {g j : Nat} {cs0 : Array Value} {T : TypeId} {u : Value} (h : CirR w wr cs v Rk VR) (gb : Blk wr g cs0 T) (h1 : T ≠ 100) (h2 : T ≠ 106) (h3 : T ≠ 37) (hg : w.heap.size ≤ g) : CirR w (wr.setCell ⟨g, j, none⟩ u) cs v Rk VR :=
  ⟨h.b.setCell (by exact hg) _, h.gX.other (fun e => by subst e; exact h3 (blk_type gb h.gX)) _ _, h.g3.other (fun e => by subst e; exact h3 (blk_type gb h.g3)) _ _, h.o.other (h.o.neq gb (fun e => h2 e.symm)) _, h.rv, fun r hr => ⟨(h.ok r hr).1.setType gb h1, (h.ok r hr).2.1.setType gb h1, (h.ok r hr).2.2.setType gb h1⟩⟩
theorem CirH.set {w wr : World} {cs : Array Value} {v : Value} {g n c i : Nat} {Rk : List Rw} {VR : List Row3} {Hk : List Hn} {VH : List Hint4} {t : Hn} (h : CirH w wr cs v Rk VR (.slice (some ⟨g, 0, none⟩) n c) Hk VH) (hi : i < Hk.length) (ht : t.val = (Hk.getD i default).val) (h1 : LinT wr t.a ∧ LinT wr t.b ∧ (Lit.int .i64 t.k).wf = true ∧ (Lit.int .i64 t.bit).wf = true) :
    CirH w ((wr.setCell ⟨g, i * 4 + 1, none⟩ (lcV t.a)).setCell ⟨g, i * 4 + 2, none⟩ (lcV t.b)) cs v Rk VR (.slice (some ⟨g, 0, none⟩) n c) (Hk.set i t) VH := by
  obtain ⟨hg, cs0, gb⟩ := h.o.blkE
  have hl : ∀ s, LinT wr s → LinT ((wr.setCell ⟨g, i * 4 + 1, none⟩ (lcV t.a)).setCell ⟨g, i * 4 + 2, none⟩ (lcV t.b)) s := fun s hs => (hs.setType gb (by decide)).setType (gb.set _ _) (by decide)
  have e1 : (Hk.getD i default).k = t.k := by have := congrArg Hint4.k ht; exact this.symm
  have e2 : (Hk.getD i default).bit = t.bit := by have := congrArg Hint4.bit ht; exact this.symm
  refine ⟨(h.r.setOther gb (by decide) (by decide) (by decide) hg).setOther (gb.set _ _) (by decide) (by decide) (by decide) hg, h.o.setHn i hi t e1 e2, by rw [map_set_same hi ht, h.hv], fun q hq => ?_⟩
  rcases List.mem_or_eq_of_mem_set hq with h2 | h2
  · exact ⟨hl _ (h.ok q h2).1, hl _ (h.ok q h2).2.1, (h.ok q h2).2.2⟩
  · subst h2
    exact ⟨hl _ h1.1, hl _ h1.2.1, h1.2.2⟩
/-- The combinations are of a size that can be copied. -/
def SzR (VR : List Row3) : Prop := ∀ r ∈ VR, r.a.length ≤ 10000000 ∧ r.b.length ≤ 10000000 ∧ r.c.length ≤ 10000000
def SzH (VH : List Hint4) : Prop := ∀ r ∈ VH, r.a.length ≤ 10000000 ∧ r.b.length ≤ 10000000
theorem SzR.get {VR : List Row3} {Rk : List Rw} (h : SzR VR) (e : Rk.map Rw.val = VR) {r : Rw} (hr : r ∈ Rk) : r.a.l.length ≤ 10000000 ∧ r.b.l.length ≤ 10000000 ∧ r.c.l.length ≤ 10000000 := h r.val (by rw [← e]; exact List.mem_map_of_mem hr)
theorem SzH.get {VH : List Hint4} {Hk : List Hn} (h : SzH VH) (e : Hk.map Hn.val = VH) {r : Hn} (hr : r ∈ Hk) : r.a.l.length ≤ 10000000 ∧ r.b.l.length ≤ 10000000 := h r.val (by rw [← e]; exact List.mem_map_of_mem hr)

/-- The copies, while the result is written. -/
structure CirO (w wr : World) (v : Value) (Rk : List Rw) (u : Value) (Hk : List Hn) : Prop where
  b : Below w.heap.size w wr
  r : OwnG rwL wr w.heap.size 106 v Rk
  h : OwnG hnL wr w.heap.size 108 u Hk
  rok : ∀ q ∈ Rk, LinT wr q.a ∧ LinT wr q.b ∧ LinT wr q.c
  hok : ∀ q ∈ Hk, LinT wr q.a ∧ LinT wr q.b ∧ (Lit.int .i64 q.k).wf = true ∧ (Lit.int .i64 q.bit).wf = true
theorem CirO.set {w wr : World} {v u x : Value} {Rk : List Rw} {Hk : List Hn} {cs : Array Value} {j : Nat} (h : CirO w wr v Rk u Hk) (g : Blk wr w.heap.size cs 37) : CirO w (wr.setCell ⟨w.heap.size, j, none⟩ x) v Rk u Hk :=
  ⟨h.b.setCell (Nat.le_refl _) _, h.r.other (h.r.neq g (by decide)) _, h.h.other (h.h.neq g (by decide)) _, fun q hq => ⟨(h.rok q hq).1.setType g (by decide), (h.rok q hq).2.1.setType g (by decide), (h.rok q hq).2.2.setType g (by decide)⟩,
    fun q hq => ⟨(h.hok q hq).1.setType g (by decide), (h.hok q hq).2.1.setType g (by decide), (h.hok q hq).2.2⟩⟩
theorem CirO.rows {w wr : World} {a2 : Option Addr} {n c : Nat} {u : Value} {Rk : List Rw} {Hk : List Hn} (h : CirO w wr (.slice a2 n c) Rk u Hk) : RowsP wr a2 c Rk := by
  obtain ⟨a, c', e, hs, h1, h2, h3⟩ := h.r.sl
  injection e with e1 _ e2
  subst e1 e2
  exact RowsP.of_slg hs (fun r hr => ⟨(h.rok r hr).1.ok, (h.rok r hr).2.1.ok, (h.rok r hr).2.2.ok⟩) h1 h2 h3
theorem CirO.hints {w wr : World} {a2 : Option Addr} {n c : Nat} {v : Value} {Rk : List Rw} {Hk : List Hn} (h : CirO w wr v Rk (.slice a2 n c) Hk) : HintsP wr a2 c Hk := by
  obtain ⟨a, c', e, hs, h1, h2, h3⟩ := h.h.sl
  injection e with e1 _ e2
  subst e1 e2
  exact HintsP.of_slg hs (fun r hr => ⟨(h.hok r hr).1.ok, (h.hok r hr).2.1.ok, (h.hok r hr).2.2⟩) h1 h2 h3
def IsRow3 (La Lb Lc' : Lin) (v : Value) (w : World) : Prop := ∃ x y z : Lc, v = .agg #[.slice x.ad x.l.length x.cap, .slice y.ad y.l.length y.cap, .slice z.ad z.l.length z.cap] ∧ Hid (x.l = La ∧ y.l = Lb ∧ z.l = Lc') ∧ LinT w x ∧ LinT w y ∧ LinT w z
theorem IsRow3.mono {La Lb Lc' : Lin} {v : Value} {w w' : World} (h : IsRow3 La Lb Lc' v w) (hb : Below w.heap.size w w') : IsRow3 La Lb Lc' v w' := by
  obtain ⟨x, y, z, h1, h2, h3, h4, h5⟩ := h
  exact ⟨x, y, z, h1, h2, h3.mono hb, h4.mono hb, h5.mono hb⟩

end Go.Proofs.Ytlgjnidphldiiaa
