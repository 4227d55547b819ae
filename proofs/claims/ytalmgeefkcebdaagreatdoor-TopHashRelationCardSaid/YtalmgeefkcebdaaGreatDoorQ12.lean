/- Gadgets: Circuit of the program: a copy of the circuit. -/
import Derived.Test.YtalmgeefkcebdaaGreatDoorQ11
namespace Go.Proofs.YtalmgeefkcebdaaGreatDoor
open Go.RowKit

theorem flat3_set : ∀ (xs : List Rw) (i : Nat) (t : Rw), i < xs.length → (((xs.flatMap rwL.f).set (i * 3) (lcV t.a)).set (i * 3 + 1) (lcV t.b)).set (i * 3 + 2) (lcV t.c) = (xs.set i t).flatMap rwL.f
  | x :: xs, 0, t, _ => rfl
  | x :: xs, i + 1, t, h => by
    have ih := flat3_set xs i t (by simpa using h)
    rw [List.set_cons_succ, List.flatMap_cons, List.flatMap_cons, ← ih, show (i + 1) * 3 = i * 3 + 3 by omega]
    rfl
theorem flat4_set : ∀ (xs : List Hn) (i : Nat) (t : Hn), i < xs.length → (xs.getD i default).k = t.k → (xs.getD i default).bit = t.bit → ((xs.flatMap hnL.f).set (i * 4 + 1) (lcV t.a)).set (i * 4 + 2) (lcV t.b) = (xs.set i t).flatMap hnL.f
  | x :: xs, 0, t, _, h1, h2 => by
    have h1 : x.k = t.k := h1
    have h2 : x.bit = t.bit := h2
    rw [List.set_cons_zero, List.flatMap_cons, List.flatMap_cons]
    show _ = [Value.int .i64 t.k, lcV t.a, lcV t.b, .int .i64 t.bit] ++ _
    rw [← h1, ← h2]
    rfl
  | x :: xs, i + 1, t, h, h1, h2 => by
    have ih := flat4_set xs i t (by simpa using h) h1 h2
    rw [List.set_cons_succ, List.flatMap_cons, List.flatMap_cons, ← ih, show (i + 1) * 4 = i * 4 + 4 by omega]
    rfl
section
variable {w : World} {base g n cap : Nat} {E : TypeId}
theorem OwnG.setRw {xs : List Rw} (h : OwnG rwL w base E (.slice (some ⟨g, 0, none⟩) n cap) xs) (i : Nat) (hi : i < xs.length) (t : Rw) :
    OwnG rwL (((w.setCell ⟨g, i * 3, none⟩ (lcV t.a)).setCell ⟨g, i * 3 + 1, none⟩ (lcV t.b)).setCell ⟨g, i * 3 + 2, none⟩ (lcV t.c)) base E (.slice (some ⟨g, 0, none⟩) n cap) (xs.set i t) := by
  rcases h.form with ⟨h0, _⟩ | ⟨g', cap', cur, h0, h1, h2, h3, h4, h5, h6⟩
  · cases h0
  · cases h0
    have := OwnG.of_blk (L := rwL) (w := ((w.setCell ⟨g, i * 3, none⟩ (lcV t.a)).setCell ⟨g, i * 3 + 1, none⟩ (lcV t.b)).setCell ⟨g, i * 3 + 2, none⟩ (lcV t.c)) (xs := xs.set i t) (cap := cap) h1 (((h2.set (i * 3) (lcV t.a)).set (i * 3 + 1) (lcV t.b)).set (i * 3 + 2) (lcV t.c)) (by simpa using h3) h4 (by simpa using h5) (by
      rw [Array.toList_setIfInBounds, Array.toList_setIfInBounds, Array.toList_setIfInBounds, List.length_set, ← flat3_set xs i t hi, ← h6, List.take_set, List.take_set, List.take_set])
    rw [List.length_set] at this
    exact this
theorem OwnG.setHn {xs : List Hn} (h : OwnG hnL w base E (.slice (some ⟨g, 0, none⟩) n cap) xs) (i : Nat) (hi : i < xs.length) (t : Hn) (e1 : (xs.getD i default).k = t.k) (e2 : (xs.getD i default).bit = t.bit) :
    OwnG hnL ((w.setCell ⟨g, i * 4 + 1, none⟩ (lcV t.a)).setCell ⟨g, i * 4 + 2, none⟩ (lcV t.b)) base E (.slice (some ⟨g, 0, none⟩) n cap) (xs.set i t) := by
  rcases h.form with ⟨h0, _⟩ | ⟨g', cap', cur, h0, h1, h2, h3, h4, h5, h6⟩
  · cases h0
  · cases h0
    have := OwnG.of_blk (L := hnL) (w := (w.setCell ⟨g, i * 4 + 1, none⟩ (lcV t.a)).setCell ⟨g, i * 4 + 2, none⟩ (lcV t.b)) (xs := xs.set i t) (cap := cap) h1 ((h2.set (i * 4 + 1) (lcV t.a)).set (i * 4 + 2) (lcV t.b)) (by simpa using h3) h4 (by simpa using h5) (by
      rw [Array.toList_setIfInBounds, Array.toList_setIfInBounds, List.length_set, ← flat4_set xs i t hi e1 e2, ← h6, List.take_set, List.take_set])
    rw [List.length_set] at this
    exact this
end
theorem map_set_same {α β : Type} {f : α → β} {xs : List α} {i : Nat} {d t : α} (hi : i < xs.length) (h : f t = f (xs.getD i d)) : (xs.set i t).map f = xs.map f := by
  rw [List.map_set, h]
  refine List.ext_getElem? fun k => ?_
  by_cases hk : k = i
  · subst hk
    rw [List.getElem?_set_self (by simpa using hi), List.getElem?_map, List.getElem?_eq_getElem hi, List.getD_eq_getElem?_getD, List.getElem?_eq_getElem hi]
    rfl
  · rw [List.getElem?_set_ne (fun e => hk e.symm)]

/-- Two blocks of the call's own, and the copy of the rows. -/
structure CirR (w wr : World) (cs : Array Value) (v : Value) (Rk : List Rw) (VR : List Row3) : Prop where
  b : Below w.heap.size w wr
  gX : Blk wr w.heap.size #[.int .u64 0, .int .i64 0, .int .i64 0, .slice none 0 0, .int .i64 0, .slice none 0 0] 47
  g3 : Blk wr (w.heap.size + 1) cs 47
  o : OwnG rwL wr w.heap.size 97 v Rk
  rv : Rk.map Rw.val = VR
  ok : ∀ r ∈ Rk, LinT wr r.a ∧ LinT wr r.b ∧ LinT wr r.c
theorem CirR.mono {w wr w2 : World} {cs : Array Value} {v : Value} {Rk : List Rw} {VR : List Row3} (h : CirR w wr cs v Rk VR) (hb : Below wr.heap.size wr w2) : CirR w w2 cs v Rk VR :=
  ⟨below2 h.b hb, h.gX.mono hb, h.g3.mono hb, h.o.mono hb, h.rv, fun r hr => ⟨(h.ok r hr).1.mono hb, (h.ok r hr).2.1.mono hb, (h.ok r hr).2.2.mono hb⟩⟩
theorem CirR.set {w wr : World} {cs : Array Value} {g n c i : Nat} {Rk : List Rw} {VR : List Row3} {t : Rw} (h : CirR w wr cs (.slice (some ⟨g, 0, none⟩) n c) Rk VR) (hi : i < Rk.length) (ht : t.val = (Rk.getD i default).val) (h1 : LinT wr t.a ∧ LinT wr t.b ∧ LinT wr t.c) :
    CirR w (((wr.setCell ⟨g, i * 3, none⟩ (lcV t.a)).setCell ⟨g, i * 3 + 1, none⟩ (lcV t.b)).setCell ⟨g, i * 3 + 2, none⟩ (lcV t.c)) cs (.slice (some ⟨g, 0, none⟩) n c) (Rk.set i t) VR := by
  obtain ⟨hg, cs0, gb⟩ := h.o.blkE
  have n0 : g ≠ w.heap.size := fun e => by subst e; exact absurd (blk_type gb h.gX) (by decide)
  have n1 : g ≠ w.heap.size + 1 := fun e => by subst e; exact absurd (blk_type gb h.g3) (by decide)
  have hl : ∀ s, LinT wr s → LinT (((wr.setCell ⟨g, i * 3, none⟩ (lcV t.a)).setCell ⟨g, i * 3 + 1, none⟩ (lcV t.b)).setCell ⟨g, i * 3 + 2, none⟩ (lcV t.c)) s := fun s hs =>
    ((hs.setType gb (by decide)).setType (gb.set _ _) (by decide)).setType ((gb.set _ _).set _ _) (by decide)
  refine ⟨((h.b.setCell (by exact hg) _).setCell (by exact hg) _).setCell (by exact hg) _, ((h.gX.other n0 _ _).other n0 _ _).other n0 _ _, ((h.g3.other n1 _ _).other n1 _ _).other n1 _ _, h.o.setRw i hi t, by rw [map_set_same hi ht, h.rv], fun r hr => ?_⟩
  rcases List.mem_or_eq_of_mem_set hr with h2 | h2
  · exact ⟨hl _ (h.ok r h2).1, hl _ (h.ok r h2).2.1, hl _ (h.ok r h2).2.2⟩
  · subst h2
    exact ⟨hl _ h1.1, hl _ h1.2.1, hl _ h1.2.2⟩

/-- The copy of the hints besides. -/
structure CirH (w wr : World) (cs : Array Value) (v : Value) (Rk : List Rw) (VR : List Row3) (u : Value) (Hk : List Hn) (VH : List Hint4) : Prop where
  r : CirR w wr cs v Rk VR
  o : OwnG hnL wr w.heap.size 134 u Hk
  hv : Hk.map Hn.val = VH
  ok : ∀ q ∈ Hk, LinT wr q.a ∧ LinT wr q.b ∧ (Lit.int .i64 q.k).wf = true ∧ (Lit.int .i64 q.bit).wf = true
theorem CirH.mono {w wr w2 : World} {cs : Array Value} {v u : Value} {Rk : List Rw} {VR : List Row3} {Hk : List Hn} {VH : List Hint4} (h : CirH w wr cs v Rk VR u Hk VH) (hb : Below wr.heap.size wr w2) : CirH w w2 cs v Rk VR u Hk VH :=
  ⟨h.r.mono hb, h.o.mono hb, h.hv, fun q hq => ⟨(h.ok q hq).1.mono hb, (h.ok q hq).2.1.mono hb, (h.ok q hq).2.2⟩⟩
theorem CirR.setOther {w wr : World} {cs : Array Value} {v : Value} {Rk : List Rw} {VR : List Row3} {g j : Nat} {cs0 : Array Value} {T : TypeId} {u : Value} (h : CirR w wr cs v Rk VR) (gb : Blk wr g cs0 T) (h1 : T ≠ 131) (h2 : T ≠ 97) (h3 : T ≠ 47) (hg : w.heap.size ≤ g) : CirR w (wr.setCell ⟨g, j, none⟩ u) cs v Rk VR :=
  ⟨h.b.setCell (by exact hg) _, h.gX.other (fun e => by subst e; exact h3 (blk_type gb h.gX)) _ _, h.g3.other (fun e => by subst e; exact h3 (blk_type gb h.g3)) _ _, h.o.other (h.o.neq gb (fun e => h2 e.symm)) _, h.rv, fun r hr => ⟨(h.ok r hr).1.setType gb h1, (h.ok r hr).2.1.setType gb h1, (h.ok r hr).2.2.setType gb h1⟩⟩
theorem CirH.set {w wr : World} {cs : Array Value} {v : Value} {g n c i : Nat} {Rk : List Rw} {VR : List Row3} {Hk : List Hn} {VH : List Hint4} {t : Hn} (h : CirH w wr cs v Rk VR (.slice (some ⟨g, 0, none⟩) n c) Hk VH) (hi : i < Hk.length) (ht : t.val = (Hk.getD i default).val) (h1 : LinT wr t.a ∧ LinT wr t.b ∧ (Lit.int .i64 t.k).wf = true ∧ (Lit.int .i64 t.bit).wf = true) :
    CirH w ((wr.setCell ⟨g, i * 4 + 1, none⟩ (lcV t.a)).setCell ⟨g, i * 4 + 2, none⟩ (lcV t.b)) cs v Rk VR (.slice (some ⟨g, 0, none⟩) n c) (Hk.set i t) VH := by
  obtain ⟨hg, cs0, gb⟩ := h.o.blkE
  have hl : ∀ s, LinT wr s → LinT ((wr.setCell ⟨g, i * 4 + 1, none⟩ (lcV t.a)).setCell ⟨g, i * 4 + 2, none⟩ (lcV t.b)) s := fun s hs => (hs.setType gb (by decide)).setType (gb.set _ _) (by decide)
  have e1 : (Hk.getD i default).k = t.k := by have := congrArg Hint4.k ht; exact this.symm
  have e2 : (Hk.getD i default).bit = t.bit := by have := congrArg Hint4.bit ht; exact this.symm
  refine ⟨(h.r.setOther gb (by decide) (by decide) (by decide) hg).setOther (gb.set _ _) (by decide) (by decide) (by decide) hg, h.o.setHn i hi t e1 e2, by rw [map_set_same hi ht, h.hv], fun q hq => ?_⟩
  rcases List.mem_or_eq_of_mem_set hq with h2 | h2
  · exact ⟨hl _ (h.ok q h2).1, hl _ (h.ok q h2).2.1, (h.ok q h2).2.2⟩
  · subst h2
    exact ⟨hl _ h1.1, hl _ h1.2.1, h1.2.2⟩
/-- The combinations are of a size that can be copied. -/
def SzR (VR : List Row3) : Prop := ∀ r ∈ VR, r.a.length ≤ 10000000 ∧ r.b.length ≤ 10000000 ∧ r.c.length ≤ 10000000
def SzH (VH : List Hint4) : Prop := ∀ r ∈ VH, r.a.length ≤ 10000000 ∧ r.b.length ≤ 10000000
theorem SzR.get {VR : List Row3} {Rk : List Rw} (h : SzR VR) (e : Rk.map Rw.val = VR) {r : Rw} (hr : r ∈ Rk) : r.a.l.length ≤ 10000000 ∧ r.b.l.length ≤ 10000000 ∧ r.c.l.length ≤ 10000000 := h r.val (by rw [← e]; exact List.mem_map_of_mem hr)
theorem SzH.get {VH : List Hint4} {Hk : List Hn} (h : SzH VH) (e : Hk.map Hn.val = VH) {r : Hn} (hr : r ∈ Hk) : r.a.l.length ≤ 10000000 ∧ r.b.l.length ≤ 10000000 := h r.val (by rw [← e]; exact List.mem_map_of_mem hr)

/-- The copies, while the result is written. -/
structure CirO (w wr : World) (v : Value) (Rk : List Rw) (u : Value) (Hk : List Hn) : Prop where
  b : Below w.heap.size w wr
  r : OwnG rwL wr w.heap.size 97 v Rk
  h : OwnG hnL wr w.heap.size 134 u Hk
  rok : ∀ q ∈ Rk, LinT wr q.a ∧ LinT wr q.b ∧ LinT wr q.c
  hok : ∀ q ∈ Hk, LinT wr q.a ∧ LinT wr q.b ∧ (Lit.int .i64 q.k).wf = true ∧ (Lit.int .i64 q.bit).wf = true
theorem CirO.set {w wr : World} {v u x : Value} {Rk : List Rw} {Hk : List Hn} {cs : Array Value} {j : Nat} (h : CirO w wr v Rk u Hk) (g : Blk wr w.heap.size cs 47) : CirO w (wr.setCell ⟨w.heap.size, j, none⟩ x) v Rk u Hk :=
  ⟨h.b.setCell (Nat.le_refl _) _, h.r.other (h.r.neq g (by decide)) _, h.h.other (h.h.neq g (by decide)) _, fun q hq => ⟨(h.rok q hq).1.setType g (by decide), (h.rok q hq).2.1.setType g (by decide), (h.rok q hq).2.2.setType g (by decide)⟩,
    fun q hq => ⟨(h.hok q hq).1.setType g (by decide), (h.hok q hq).2.1.setType g (by decide), (h.hok q hq).2.2⟩⟩
theorem CirO.rows {w wr : World} {a2 : Option Addr} {n c : Nat} {u : Value} {Rk : List Rw} {Hk : List Hn} (h : CirO w wr (.slice a2 n c) Rk u Hk) : RowsP wr a2 c Rk := by
  obtain ⟨a, c', e, hs, h1, h2, h3⟩ := h.r.sl
  injection e with e1 _ e2
  subst e1 e2
  exact RowsP.of_slg hs (fun r hr => ⟨(h.rok r hr).1.ok, (h.rok r hr).2.1.ok, (h.rok r hr).2.2.ok⟩) h1 h2 h3
theorem CirO.hints {w wr : World} {a2 : Option Addr} {n c : Nat} {v : Value} {Rk : List Rw} {Hk : List Hn} (h : CirO w wr v Rk (.slice a2 n c) Hk) : HintsP wr a2 c Hk := by
  obtain ⟨a, c', e, hs, h1, h2, h3⟩ := h.h.sl
  injection e with e1 _ e2
  subst e1 e2
  exact HintsP.of_slg hs (fun r hr => ⟨(h.hok r hr).1.ok, (h.hok r hr).2.1.ok, (h.hok r hr).2.2⟩) h1 h2 h3
/-- What Circuit returns. -/
def RetCirc (w : World) (S : St) (e : Ending) (w' : World) : Prop := ∃ ra rc R ha hc H, e = .returned (.agg #[.int .u64 S.p, .int .i64 S.pub, .int .i64 S.vars, .slice ra R.length rc, .int .i64 S.sec, .slice ha H.length hc]) ∧ RowsP w' ra rc R ∧ HintsP w' ha hc H ∧ Hid (R.map Rw.val = S.R) ∧ Hid (H.map Hn.val = S.H) ∧ Below w.heap.size w w'
def IsRow3 (La Lb Lc' : Lin) (v : Value) (w : World) : Prop := ∃ x y z : Lc, v = .agg #[.slice x.ad x.l.length x.cap, .slice y.ad y.l.length y.cap, .slice z.ad z.l.length z.cap] ∧ Hid (x.l = La ∧ y.l = Lb ∧ z.l = Lc') ∧ LinT w x ∧ LinT w y ∧ LinT w z
theorem IsRow3.mono {La Lb Lc' : Lin} {v : Value} {w w' : World} (h : IsRow3 La Lb Lc' v w) (hb : Below w.heap.size w w') : IsRow3 La Lb Lc' v w' := by
  obtain ⟨x, y, z, h1, h2, h3, h4, h5⟩ := h
  exact ⟨x, y, z, h1, h2, h3.mono hb, h4.mono hb, h5.mono hb⟩

set_option maxRecDepth 10000 in
set_option maxHeartbeats 16000000 in
theorem Circuit20_any (base b : Nat) (S : St) (w : World) (h : Bld w base b S) (hn1 : S.R.length ≤ 1000000000) (hn2 : S.H.length ≤ 1000000000) (sR : SzR S.R) (sH : SzH S.H) :
    Calls Tryz.prog 21 #[.pointer (some ⟨b, 0, none⟩)] w (RetCirc w S) := by
  obtain ⟨vr, R, vh, H, h⟩ := h
  have hRl : R.length = S.R.length := by rw [← h.rv, List.length_map]
  have hHl : H.length = S.H.length := by rw [← h.hv, List.length_map]
  obtain ⟨ar, cr, er, sr, _, _, _⟩ := h.rows.sl
  obtain ⟨ah, ch, eh, sh, _, _, _⟩ := h.hints.sl
  subst er eh
  have gB := h.blk
  have k1 := gB.cell (j := 1) (v := .int .u64 S.p) rfl
  have k2 := gB.cell (j := 2) (v := .int .i64 S.pub) rfl
  have k3 := gB.cell (j := 3) (v := .int .i64 S.vars) rfl
  have k4 := gB.cell (j := 4) (v := .slice ar R.length cr) rfl
  have k5 := gB.cell (j := 5) (v := .int .i64 S.sec) rfl
  have k6 := gB.cell (j := 6) (v := .slice ah H.length ch) rfl
  have lB := gB.lt
  replace hRl := hide hRl
  replace hHl := hide hHl
  go_enter Tryz.func21, Tryz.ntmps21
  go_wp2_with fail
  refine name_calls fun w1 hN => ?_
  have gX : Blk w1 w.heap.size #[.int .u64 0, .int .i64 0, .int .i64 0, .slice none 0 0, .int .i64 0, .slice none 0 0] 47 := by rw [hN]; exact (Blk.newAt rfl).alloc _
  have g3 : Blk w1 (w.heap.size + 1) #[.int .u64 S.p, .int .i64 S.pub, .int .i64 S.vars, .slice ar R.length cr, .int .i64 S.sec, .slice ah H.length ch] 47 := by rw [hN]; exact Blk.newAt (by simp)
  have hB : Below w.heap.size w w1 := by rw [hN]; exact ((Below.refl _ _).alloc (Nat.le_refl _) _).alloc (by simp) _
  clear hN k1 k2 k3 k4 k5 k6
  refine (CloneR_any ar R.length cr R w1 (sr.mono hB) rfl (by have := hRl.out; omega)).mono ?_
  rintro e w2 ⟨v2, rfl, o2, hb2⟩
  replace gX := gX.mono hb2
  replace g3 := g3.mono hb2
  have hl1 := hB.size
  replace hB := below2 hB hb2
  replace o2 := o2.low hl1
  obtain ⟨a2, c2, e2, _, _, _, _⟩ := o2.sl
  subst e2
  have y3 := g3.cell (j := 3) (v := .slice ar R.length cr) rfl
  have yf := g3.free
  have y0 := g3.cell (j := 5) (v := .slice ah H.length ch) rfl
  clear hb2 hl1 lB
  go_wp2_with fail
  have hl : ∀ s, LinT w2 s → LinT (w2.setCell ⟨w.heap.size + 1, 3, none⟩ (.slice a2 R.length c2)) s := fun s hs => hs.setType g3 (by decide)
  have C0 : CirR w (w2.setCell ⟨w.heap.size + 1, 3, none⟩ (.slice a2 R.length c2)) #[.int .u64 S.p, .int .i64 S.pub, .int .i64 S.vars, .slice a2 R.length c2, .int .i64 S.sec, .slice ah H.length ch] (.slice a2 R.length c2) R S.R :=
    ⟨hB.setCell (by simp) _, gX.other (by omega) _ _, g3.set 3 (.slice a2 R.length c2), o2.other (o2.neq g3 (by decide)) _, h.rv, fun r hr => ⟨hl _ ((h.rok r hr).1.mono hB), hl _ ((h.rok r hr).2.1.mono hB), hl _ ((h.rok r hr).2.2.mono hB)⟩⟩
  have hR9 : R.length ≤ 1000000000 := by have := hRl.out; omega
  clear o2 hl gX g3 hB y3 yf y0 hRl sr
  go_loopw [22] (fun t22 wr => ∃ k : Nat, k ≤ R.length ∧ t22 = .int .i64 k ∧ ∃ Rk, CirR w wr #[.int .u64 S.p, .int .i64 S.pub, .int .i64 S.vars, .slice a2 R.length c2, .int .i64 S.sec, .slice ah H.length ch] (.slice a2 R.length c2) Rk S.R) (fun t22 _ => R.length - (intOf t22).toNat)
  case atStart => exact ⟨0, Nat.zero_le _, rfl, _, C0⟩
  case round =>
    clear C0
    obtain ⟨k, hk, rfl, Rk, C⟩ := hrel
    have hRk : Rk.length = R.length := by
      have h1 := congrArg List.length C.rv
      have h2 := congrArg List.length h.rv
      rw [List.length_map] at h1 h2
      omega
    replace hRk := hide hRk
    by_cases hlt : k < R.length
    · have hlt' : (k : Int) < R.length := by omega
      have hkR : k < Rk.length := by have := hRk.out; omega
      have hmem := getD_mem' hkR default
      obtain ⟨z1, z2, z3⟩ := sR.get C.rv hmem
      obtain ⟨i1, i2, i3⟩ := C.ok _ hmem
      rcases C.o.form with ⟨h0, _⟩ | ⟨g2, cap2, cur2, e2, _, gb2, _⟩
      · injection h0 with _ h0 _; omega
      · injection e2 with e2 e4 e3
        subst e2
        clear e4
        have d0 := C.o.cellE (i := k) (j := 0) default hkR (by decide) rfl
        have d1 := C.o.cellE (i := k) (j := 1) default hkR (by decide) rfl
        have d2 := C.o.cellE (i := k) (j := 2) default hkR (by decide) rfl
        rw [show k * rwL.m + 0 = k * 3 from rfl] at d0
        rw [show k * rwL.m + 1 = k * 3 + 1 from rfl] at d1
        rw [show k * rwL.m + 2 = k * 3 + 2 from rfl] at d2
        obtain ⟨r, hr⟩ : ∃ r, r = Rk.getD k default := ⟨_, rfl⟩
        rw [← hr] at d0 d1 d2 z1 z2 z3 i1 i2 i3
        replace hr := hide hr
        replace hkR := hide hkR
        replace d0 : wr.cell? ⟨g2, k * 3, none⟩ = some (.slice r.a.ad r.a.l.length r.a.cap) := d0
        replace d1 : wr.cell? ⟨g2, k * 3 + 1, none⟩ = some (.slice r.b.ad r.b.l.length r.b.cap) := d1
        replace d2 : wr.cell? ⟨g2, k * 3 + 2, none⟩ = some (.slice r.c.ad r.c.l.length r.c.cap) := d2
        clear hmem gb2 e3
        go_wp2_with fail
        refine name_world fun w3 hN => ?_
        have gT : Blk w3 wr.heap.size #[.slice r.a.ad r.a.l.length r.a.cap, .slice r.b.ad r.b.l.length r.b.cap, .slice r.c.ad r.c.l.length r.c.cap] 97 := by rw [hN]; exact Blk.newAt rfl
        have hb3 : Below wr.heap.size wr w3 := by rw [hN]; exact (Below.refl _ _).alloc (Nat.le_refl _) _
        clear hN d0 d1 d2
        replace C := C.mono hb3
        replace i1 := i1.mono hb3
        replace i2 := i2.mono hb3
        replace i3 := i3.mono hb3
        have g3 := C.g3
        have y3 := cell_later' (g3.cell (j := 3) (v := .slice (some ⟨g2, 0, none⟩) R.length c2) rfl)
        have t0 := cell_later' (gT.cell (j := 0) (v := .slice r.a.ad r.a.l.length r.a.cap) rfl)
        have t1 := cell_later' (gT.cell (j := 1) (v := .slice r.b.ad r.b.l.length r.b.cap) rfl)
        have t2 := cell_later' (gT.cell (j := 2) (v := .slice r.c.ad r.c.l.length r.c.cap) rfl)
        refine Rel.wp_region_mix 14 [] [(6, IsLn r.a.l), (9, IsLn r.b.l), (12, IsLn r.c.l), (13, IsRow3 r.a.l r.b.l r.c.l)] Tryz.mixed (by kernel_rfl) (by kernel_rfl) ?_ ?_
        rotate_left
        simp only [List.take_succ_cons, List.take_zero, List.drop_succ_cons, List.drop_zero, List.map_cons, List.map_nil]
        repeat (first | (refine Rel.wpA_b (by rfl) ?_) | (refine Rel.wpA_step (by rfl) fun K hK => ?_; go_simp; first | (refine hK _ ?_; clear hK K) | (apply Exists.intro; refine ⟨fun _ => ?_, hK _ ?_⟩; (first | fail); clear hK K)))
        refine Rel.wpA_nil ?_
        rotate_left
        · intro q hq v u u' h1 h2
          simp only [List.mem_cons, List.not_mem_nil, or_false] at hq
          rcases hq with rfl | rfl | rfl | rfl
          · exact IsLn.mono h1 h2
          · exact IsLn.mono h1 h2
          · exact IsLn.mono h1 h2
          · exact IsRow3.mono h1 h2
        refine Rel.wpB_step _ rfl rfl (fun p' hq => ?_) (fun v6 => ?_)
        · refine rU_of' (fr := false) (r := .ok (.enter 52 #[.slice r.a.ad r.a.l.length r.a.cap]) (later w3 p')) (by kernel_rfl) (by kernel_rfl) ?_
          exact rU_ln (CloneT_any r.a _ (i1.mono (below_later _ _)).ok (by omega))
        refine Rel.wpB_step _ rfl rfl (fun p' hq => ?_) (fun v9 => ?_)
        · refine rU_of' (fr := false) (r := .ok (.enter 52 #[.slice r.b.ad r.b.l.length r.b.cap]) (later w3 p')) (by kernel_rfl) (by kernel_rfl) ?_
          exact rU_ln (CloneT_any r.b _ (i2.mono (below_later _ _)).ok (by omega))
        refine Rel.wpB_step _ rfl rfl (fun p' hq => ?_) (fun v12 => ?_)
        · refine rU_of' (fr := false) (r := .ok (.enter 52 #[.slice r.c.ad r.c.l.length r.c.cap]) (later w3 p')) (by kernel_rfl) (by kernel_rfl) ?_
          exact rU_ln (CloneT_any r.c _ (i3.mono (below_later _ _)).ok (by omega))
        refine Rel.wpB_step _ rfl rfl (fun p' hq => ?_) (fun v13 => ?_)
        · have q6 : IsLn r.a.l v6 (later w3 p') := hq _ (List.Mem.head _) (by kernel_rfl)
          have q9 : IsLn r.b.l v9 (later w3 p') := hq _ (List.Mem.tail _ (List.Mem.head _)) (by kernel_rfl)
          have q12 : IsLn r.c.l v12 (later w3 p') := hq _ (List.Mem.tail _ (List.Mem.tail _ (List.Mem.head _))) (by kernel_rfl)
          obtain ⟨x, rfl, ex, hx⟩ := q6
          obtain ⟨y, rfl, ey, hy⟩ := q9
          obtain ⟨z, rfl, ez, hz⟩ := q12
          refine rU_of' (fr := false) (r := .ok (.value (.agg #[.slice x.ad x.l.length x.cap, .slice y.ad y.l.length y.cap, .slice z.ad z.l.length z.cap])) (later w3 p')) (by kernel_rfl) (by kernel_rfl) ?_
          exact ⟨Below.refl _ _, ⟨x, y, z, rfl, hide ⟨ex.out, ey.out, ez.out⟩, hx, hy, hz⟩, fun h => by cases h⟩
        refine Rel.wpB_nil ?_
        intro p' hctx hfr
        simp only [List.nil_append, List.cons_append, List.mem_cons, List.not_mem_nil, or_false, forall_eq_or_imp, forall_eq] at hctx
        obtain ⟨_, _, _, ⟨x, y, z, rfl, exyz, hx, hy, hz⟩⟩ := hctx
        have hb4 := below_later w3 p'
        clear hfr y3 t0 t1 t2 g3
        generalize later w3 p' = w4 at *
        replace C := C.mono hb4
        have d0 := C.o.cellE (i := k) (j := 0) default hkR.out (by decide) rfl
        have d1 := C.o.cellE (i := k) (j := 1) default hkR.out (by decide) rfl
        have d2 := C.o.cellE (i := k) (j := 2) default hkR.out (by decide) rfl
        rw [show k * rwL.m + 0 = k * 3 from rfl] at d0
        rw [show k * rwL.m + 1 = k * 3 + 1 from rfl] at d1
        rw [show k * rwL.m + 2 = k * 3 + 2 from rfl] at d2
        obtain ⟨_, cs5, gb5⟩ := C.o.blkE
        have zf := gb5.free
        have C5 := C.set (i := k) (t := ⟨x, y, z⟩) hkR.out (by rw [← hr.out]; unfold Rw.val; rw [exyz.out.1, exyz.out.2.1, exyz.out.2.2]) ⟨hx, hy, hz⟩
        clear C hx hy hz exyz gb5 hb4 hb3 gT i1 i2 i3
        go_wp2
        go_roundw
        case rel => exact ⟨k + 1, by omega, by go_num, _, C5⟩
        case measure => simp [intOf]; omega
    · obtain rfl : k = R.length := by omega
      have g3 := C.g3
      have y5 := g3.cell (j := 5) (v := .slice ah H.length ch) rfl
      have hH9 : H.length ≤ 1000000000 := by have := hHl.out; omega
      go_wp2_with fail
      refine (CloneH_any ah H.length ch H wr (sh.mono C.b) rfl (by omega)).mono ?_
      rintro e w6 ⟨v6, rfl, o6, hb6⟩
      obtain ⟨a6, c6, e6, _, _, _, _⟩ := o6.sl
      subst e6
      have hok6 := fun q hq => (⟨((h.hok q hq).1.mono C.b).mono hb6, ((h.hok q hq).2.1.mono C.b).mono hb6, (h.hok q hq).2.2⟩ : LinT w6 q.a ∧ LinT w6 q.b ∧ (Lit.int .i64 q.k).wf = true ∧ (Lit.int .i64 q.bit).wf = true)
      have hl1 := C.b.size
      replace C := C.mono hb6
      replace o6 := o6.low hl1
      clear g3 y5 hb6 hl1
      have g3 := C.g3
      have y5 := g3.cell (j := 5) (v := .slice ah H.length ch) rfl
      have yf := g3.free
      go_wp2_with fail
      have D0 : CirH w (w6.setCell ⟨w.heap.size + 1, 5, none⟩ (.slice a6 H.length c6)) #[.int .u64 S.p, .int .i64 S.pub, .int .i64 S.vars, .slice a2 R.length c2, .int .i64 S.sec, .slice a6 H.length c6] (.slice a2 R.length c2) Rk S.R (.slice a6 H.length c6) H S.H :=
        ⟨⟨C.b.setCell (by simp) _, C.gX.other (by omega) _ _, g3.set 5 (.slice a6 H.length c6), C.o.other (C.o.neq g3 (by decide)) _, C.rv, fun r hr => ⟨(C.ok r hr).1.setType g3 (by decide), (C.ok r hr).2.1.setType g3 (by decide), (C.ok r hr).2.2.setType g3 (by decide)⟩⟩, o6.other (o6.neq g3 (by decide)) _, h.hv, fun q hq => ⟨(hok6 q hq).1.setType g3 (by decide), (hok6 q hq).2.1.setType g3 (by decide), (hok6 q hq).2.2⟩⟩
      clear C o6 hok6 g3 y5 yf
      go_loopw [50] (fun t50 wr => ∃ k : Nat, k ≤ H.length ∧ t50 = .int .i64 k ∧ ∃ Hk, CirH w wr #[.int .u64 S.p, .int .i64 S.pub, .int .i64 S.vars, .slice a2 R.length c2, .int .i64 S.sec, .slice a6 H.length c6] (.slice a2 R.length c2) Rk S.R (.slice a6 H.length c6) Hk S.H) (fun t50 _ => H.length - (intOf t50).toNat)
      case atStart => exact ⟨0, Nat.zero_le _, rfl, _, D0⟩
      case round =>
        clear D0 hk hR9
        obtain ⟨k, hk, rfl, Hk, D⟩ := hrel
        have hHk : Hk.length = H.length := by
          have h1 := congrArg List.length D.hv
          have h2 := congrArg List.length h.hv
          rw [List.length_map] at h1 h2
          omega
        replace hHk := hide hHk
        by_cases hlt : k < H.length
        · have hlt' : (k : Int) < H.length := by omega
          have hkR : k < Hk.length := by have := hHk.out; omega
          have hmem := getD_mem' hkR default
          obtain ⟨z1, z2⟩ := sH.get D.hv hmem
          obtain ⟨i1, i2, i3⟩ := D.ok _ hmem
          rcases D.o.form with ⟨h0, _⟩ | ⟨g2, cap2, cur2, e2, _, gb2, _⟩
          · injection h0 with _ h0 _; omega
          · injection e2 with e2 e4 e3
            subst e2
            clear e4
            have d0 := D.o.cellE (i := k) (j := 0) default hkR (by decide) rfl
            have d1 := D.o.cellE (i := k) (j := 1) default hkR (by decide) rfl
            have d2 := D.o.cellE (i := k) (j := 2) default hkR (by decide) rfl
            have d3 := D.o.cellE (i := k) (j := 3) default hkR (by decide) rfl
            rw [show k * hnL.m + 0 = k * 4 from rfl] at d0
            rw [show k * hnL.m + 1 = k * 4 + 1 from rfl] at d1
            rw [show k * hnL.m + 2 = k * 4 + 2 from rfl] at d2
            rw [show k * hnL.m + 3 = k * 4 + 3 from rfl] at d3
            obtain ⟨r, hr⟩ : ∃ r, r = Hk.getD k default := ⟨_, rfl⟩
            rw [← hr] at d0 d1 d2 d3 z1 z2 i1 i2 i3
            replace hr := hide hr
            replace hkR := hide hkR
            replace d1 : wr.cell? ⟨g2, k * 4 + 1, none⟩ = some (.slice r.a.ad r.a.l.length r.a.cap) := d1
            replace d2 : wr.cell? ⟨g2, k * 4 + 2, none⟩ = some (.slice r.b.ad r.b.l.length r.b.cap) := d2
            clear hmem gb2 e3
            go_wp2_with fail
            refine name_world fun w7 hN => ?_
            have gT : Blk w7 wr.heap.size #[.int .i64 r.k, .slice r.a.ad r.a.l.length r.a.cap, .slice r.b.ad r.b.l.length r.b.cap, .int .i64 r.bit] 134 := by rw [hN]; exact Blk.newAt rfl
            have hb7 : Below wr.heap.size wr w7 := by rw [hN]; exact (Below.refl _ _).alloc (Nat.le_refl _) _
            have hgw : g2 < wr.heap.size := (D.o.lt rfl).2
            clear hN d0 d1 d2 d3
            replace D := D.mono hb7
            replace i1 := i1.mono hb7
            replace i2 := i2.mono hb7
            have g3 := D.r.g3
            have y5 := g3.cell (j := 5) (v := .slice (some ⟨g2, 0, none⟩) H.length c6) rfl
            have t1 := gT.cell (j := 1) (v := .slice r.a.ad r.a.l.length r.a.cap) rfl
            have t2 := gT.cell (j := 2) (v := .slice r.b.ad r.b.l.length r.b.cap) rfl
            have hk00 : (0 : Int) ≤ k := by omega
            have hwk : IntKind.i64.wrap (k : Int) = k := by rw [IntKind.wrap_i64]; omega
            clear hb7
            have n7 : g2 ≠ wr.heap.size := by omega
            have n5 : g2 ≠ w.heap.size + 1 := by
              obtain ⟨_, cs7, gb7⟩ := D.o.blkE
              intro e
              subst e
              exact absurd (blk_type gb7 g3) (by decide)
            go_region_held3 (fun w' => w'.cell? ⟨w.heap.size + 1, 5, none⟩ = some (.slice (some ⟨g2, 0, none⟩) H.length c6) ∧ w'.cell? ⟨wr.heap.size, 1, none⟩ = some (.slice r.a.ad r.a.l.length r.a.cap) ∧ w'.cell? ⟨wr.heap.size, 2, none⟩ = some (.slice r.b.ad r.b.l.length r.b.cap))
              (first
                | go_keep
                | exact ⟨cell_below hb8 y5, cell_below hb8 t1, cell_below hb8 t2⟩
                | exact ⟨cell_below hb9 (cell_below hb8 y5), cell_below hb9 (cell_below hb8 t1), cell_below hb9 (cell_below hb8 t2)⟩
                | (refine ⟨?_, ?_, ?_⟩
                   · rw [World.cell?_setCell_far _ _ _ _ n5]; exact cell_below hb9 (cell_below hb8 y5)
                   · rw [World.cell?_setCell_far _ _ _ _ n7]; exact cell_below hb9 (cell_below hb8 t1)
                   · rw [World.cell?_setCell_far _ _ _ _ n7]; exact cell_below hb9 (cell_below hb8 t2))
                | (refine ⟨?_, ?_, ?_⟩
                   · rw [World.cell?_setCell_far _ _ _ _ n5, World.cell?_setCell_far _ _ _ _ n5]; exact cell_below hb9 (cell_below hb8 y5)
                   · rw [World.cell?_setCell_far _ _ _ _ n7, World.cell?_setCell_far _ _ _ _ n7]; exact cell_below hb9 (cell_below hb8 t1)
                   · rw [World.cell?_setCell_far _ _ _ _ n7, World.cell?_setCell_far _ _ _ _ n7]; exact cell_below hb9 (cell_below hb8 t2)))
              (first
                | (go_at_call 52; refine (CloneT_any r.a _ (i1.mono (Below.refl _ _).drew).ok (by omega)).mono ?_; rintro e w8 ⟨x, rfl, ex, hx, hb8⟩)
                | (go_at_call 52; refine (CloneT_any r.b _ ((i2.mono (Below.refl _ _).drew).mono hb8).ok (by omega)).mono ?_; rintro e w9 ⟨y, rfl, ey, hy, hb9⟩; have hbb : Below w7.heap.size w7 w9 := ((Below.refl _ _).drew).trans (below2 hb8 hb9); have D9 := D.mono hbb; have s1 := D9.o.cellE (i := k) (j := 1) default hkR.out (by decide) rfl; have s2 := D9.o.cellE (i := k) (j := 2) default hkR.out (by decide) rfl; rw [show k * hnL.m + 1 = k * 4 + 1 from rfl] at s1; rw [show k * hnL.m + 2 = k * 4 + 2 from rfl] at s2; obtain ⟨_, cs9, gb9⟩ := D9.o.blkE; have sf := gb9.free))
            have D10 := D9.set (i := k) (t := ⟨r.k, x, y, r.bit⟩) hkR.out (by rw [← hr.out]; unfold Hn.val; rw [ex.out, ey.out]) ⟨hx.mono hb9, hy, i3⟩
            clear D D9 hbb s1 s2 sf gb9 hb8 hb9 hx hy ex ey y5 t1 t2 g3 gT i1 i2 n5 n7 hgw hk00 hwk
            go_wp2
            go_roundw
            case rel => exact ⟨k + 1, by omega, by go_num, _, D10⟩
            case measure => simp [intOf]; omega
        · obtain rfl : k = H.length := by omega
          have g3 := D.r.g3
          have gX := D.r.gX
          have lX := gX.lt
          have lD := g3.lt
          have fX := gX.free
          have d0 := g3.cell (j := 0) (v := .int .u64 S.p) rfl
          have d1 := g3.cell (j := 1) (v := .int .i64 S.pub) rfl
          have d2 := g3.cell (j := 2) (v := .int .i64 S.vars) rfl
          have d3 := g3.cell (j := 3) (v := .slice a2 R.length c2) rfl
          have d4 := g3.cell (j := 4) (v := .int .i64 S.sec) rfl
          have d5 := g3.cell (j := 5) (v := .slice a6 H.length c6) rfl
          have x0 := gX.cell (j := 0) (v := .int .u64 0) rfl
          have x1 := gX.cell (j := 1) (v := .int .i64 0) rfl
          have x2 := gX.cell (j := 2) (v := .int .i64 0) rfl
          have x3 := gX.cell (j := 3) (v := .slice none 0 0) rfl
          have x4 := gX.cell (j := 4) (v := .int .i64 0) rfl
          have x5 := gX.cell (j := 5) (v := .slice none 0 0) rfl
          go_wp2
          have O0 : CirO w wr (.slice a2 R.length c2) Rk (.slice a6 H.length c6) Hk := ⟨D.r.b, D.r.o, D.o, D.r.ok, D.ok⟩
          have O6 := (((((O0.set (j := 0) (x := .int .u64 S.p) gX).set (j := 1) (x := .int .i64 S.pub) (gX.set 0 _)).set (j := 2) (x := .int .i64 S.vars) ((gX.set 0 _).set 1 _)).set (j := 3) (x := .slice a2 R.length c2) (((gX.set 0 _).set 1 _).set 2 _)).set (j := 4) (x := .int .i64 S.sec) ((((gX.set 0 _).set 1 _).set 2 _).set 3 _)).set (j := 5) (x := .slice a6 H.length c6) (((((gX.set 0 _).set 1 _).set 2 _).set 3 _).set 4 _)
          refine bodyPost_ret (v := .agg #[.int .u64 S.p, .int .i64 S.pub, .int .i64 S.vars, .slice a2 R.length c2, .int .i64 S.sec, .slice a6 H.length c6]) (by simp [results, Tryz.results21, go_sem, x0, x1, x2, x3, x4, x5]) rfl ?_
          exact ⟨a2, c2, Rk, a6, c6, Hk, by rw [hRk.out, hHk.out], O6.rows, O6.hints, hide D.r.rv, hide D.hv, O6.b⟩
end Go.Proofs.YtalmgeefkcebdaaGreatDoor

