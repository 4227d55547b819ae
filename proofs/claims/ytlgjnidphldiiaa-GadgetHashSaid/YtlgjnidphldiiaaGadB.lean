/- Gadgets: a builder in memory. -/
import Derived.Test.YtlgjnidphldiiaaCirL
import Derived.Test.YtlgjnidphldiiaaGadA
namespace Go.Proofs.Ytlgjnidphldiiaa
open Go.RowKit

/-- A linear combination whose block holds terms. -/
structure LinT (w : World) (s : Lc) : Prop where
  ok : LcOk w s
  blk : s.l ≠ [] → ∃ b off cs, s.ad = some ⟨b, off, none⟩ ∧ Blk w b cs 100
theorem LinT.nil (w : World) : LinT w ⟨none, 0, []⟩ := ⟨⟨fun h => absurd h (by simp), fun t ht => (by cases ht), by simp, by simp⟩, fun h => absurd rfl h⟩
theorem LinT.mono {w w' : World} {s : Lc} (h : LinT w s) (hb : Below w.heap.size w w') : LinT w' s := ⟨h.ok.mono hb, fun h0 => by
  obtain ⟨b, off, cs, e, g⟩ := h.blk h0
  exact ⟨b, off, cs, e, g.mono hb⟩⟩
theorem lc_nil {w : World} {s : Lc} (h : LcOk w s) (e : s.l = []) (w' : World) : LcOk w' s := ⟨fun h0 => absurd h0 (by rw [e]; simp), h.wl, h.le, h.mx⟩

/-- w' is w behind calls that change the builders of the call's own alone. -/
structure Kept (base : Nat) (w w' : World) : Prop where
  below : Below base w w'
  typ : ∀ (b : Nat) (cs : Array Value) (T : TypeId), Blk w b cs T → T ≠ 106 → T ≠ 108 → T ≠ 104 → Blk w' b cs T
theorem Kept.refl (base : Nat) (w : World) : Kept base w w := ⟨Below.refl _ _, fun _ _ _ h _ _ _ => h⟩
theorem Kept.trans {base : Nat} {w w' w2 : World} (h : Kept base w w') (k : Kept base w' w2) : Kept base w w2 :=
  ⟨h.below.trans k.below, fun b cs T g h1 h2 h3 => k.typ b cs T (h.typ b cs T g h1 h2 h3) h1 h2 h3⟩
theorem Kept.of_below {base : Nat} {w w' : World} (h : Below w.heap.size w w') (hb : base ≤ w.heap.size) : Kept base w w' := ⟨h.mono hb, fun _ _ _ g _ _ _ => g.mono h⟩
theorem Kept.low {base b : Nat} {w w' : World} (h : Kept base w w') (hb : b ≤ base) : Kept b w w' := ⟨h.below.mono hb, h.typ⟩
theorem Kept.size {base : Nat} {w w' : World} (h : Kept base w w') : w.heap.size ≤ w'.heap.size := h.below.size
theorem Kept.lin {base : Nat} {w w' : World} {s : Lc} (k : Kept base w w') (h : LinT w s) : LinT w' s := by
  by_cases e : s.l = []
  · exact ⟨lc_nil h.ok e _, fun h0 => absurd e h0⟩
  · obtain ⟨b, off, cs, e2, g⟩ := h.blk e
    have g' := k.typ b cs _ g (by decide) (by decide) (by decide)
    refine ⟨⟨fun h0 => ?_, h.ok.wl, h.ok.le, h.ok.mx⟩, fun _ => ⟨b, off, cs, e2, g'⟩⟩
    obtain ⟨b', off', e3, hl, hc⟩ := h.ok.sl h0
    rw [e2] at e3
    cases e3
    have hh : w'.heap[b]? = w.heap[b]? := by
      have h1 : w.heap[b]? = _ := g
      have h2 : w'.heap[b]? = _ := g'
      rw [h1, h2]
    exact ⟨b, off, e2, Nat.lt_of_lt_of_le hl k.size, fun i hi => ⟨by rw [World.cell?_of_block (w := w) hh]; exact (hc i hi).1, by rw [World.cell?_of_block (w := w) hh]; exact (hc i hi).2⟩⟩

/-- The values of rows and hints. -/
structure Row3 where
  a : Lin
  b : Lin
  c : Lin
structure Hint4 where
  k : Int
  a : Lin
  b : Lin
  bit : Int
def Rw.val (r : Rw) : Row3 := ⟨r.a.l, r.b.l, r.c.l⟩
def Hn.val (h : Hn) : Hint4 := ⟨h.k, h.a.l, h.b.l, h.bit⟩
/-- A circuit under way. -/
structure St where
  p : Int
  pub : Int
  vars : Int
  R : List Row3
  sec : Int
  H : List Hint4

/-- The terms of s do not lie in a block of A. -/
def Av (A : Nat → Prop) (s : Lc) : Prop := s.l ≠ [] → ∀ a, s.ad = some a → ¬ A a.block
theorem Av.none (s : Lc) : Av (fun _ => False) s := fun _ _ _ h => h
/-- A builder in block b; its slices are of the call's own; its combinations do not lie in a block of A. -/
structure BS (w : World) (base b : Nat) (S : St) (vr : Value) (R : List Rw) (vh : Value) (H : List Hn) (A : Nat → Prop) : Prop where
  blk : Blk w b #[.int .u64 S.p, .int .u64 S.p, .int .i64 S.pub, .int .i64 S.vars, vr, .int .i64 S.sec, vh] 104
  lo : base ≤ b
  rows : OwnG rwL w base 106 vr R
  hints : OwnG hnL w base 108 vh H
  rok : ∀ r ∈ R, LinT w r.a ∧ LinT w r.b ∧ LinT w r.c
  hok : ∀ h ∈ H, LinT w h.a ∧ LinT w h.b ∧ (Lit.int .i64 h.k).wf = true ∧ (Lit.int .i64 h.bit).wf = true
  rv : R.map Rw.val = S.R
  hv : H.map Hn.val = S.H
  rav : ∀ r ∈ R, Av A r.a ∧ Av A r.b ∧ Av A r.c
  hav : ∀ h ∈ H, Av A h.a ∧ Av A h.b
def Bld (w : World) (base b : Nat) (S : St) (A : Nat → Prop := fun _ => False) : Prop := ∃ vr R vh H, BS w base b S vr R vh H A
theorem BS.mono {w w' : World} {base b : Nat} {S : St} {vr vh : Value} {R : List Rw} {H : List Hn} {A : Nat → Prop} (h : BS w base b S vr R vh H A) (hb : Below w.heap.size w w') : BS w' base b S vr R vh H A :=
  ⟨h.blk.mono hb, h.lo, h.rows.mono hb, h.hints.mono hb, fun r hr => ⟨(h.rok r hr).1.mono hb, (h.rok r hr).2.1.mono hb, (h.rok r hr).2.2.mono hb⟩, fun r hr => ⟨(h.hok r hr).1.mono hb, (h.hok r hr).2.1.mono hb, (h.hok r hr).2.2⟩, h.rv, h.hv, h.rav, h.hav⟩
theorem Bld.mono {w w' : World} {base b : Nat} {S : St} {A : Nat → Prop} (h : Bld w base b S A) (hb : Below w.heap.size w w') : Bld w' base b S A := by
  obtain ⟨vr, R, vh, H, h⟩ := h
  exact ⟨vr, R, vh, H, h.mono hb⟩
theorem BS.lt {w : World} {base b : Nat} {S : St} {vr vh : Value} {R : List Rw} {H : List Hn} {A : Nat → Prop} (h : BS w base b S vr R vh H A) : base ≤ w.heap.size := by
  have := h.blk.lt
  have := h.lo
  omega
theorem Bld.forget {w : World} {base b : Nat} {S : St} {A : Nat → Prop} (h : Bld w base b S A) : Bld w base b S := by
  obtain ⟨vr, R, vh, H, h⟩ := h
  exact ⟨vr, R, vh, H, h.blk, h.lo, h.rows, h.hints, h.rok, h.hok, h.rv, h.hv, fun _ _ => ⟨Av.none _, Av.none _, Av.none _⟩, fun _ _ => ⟨Av.none _, Av.none _⟩⟩
/-- A block that is made behind a builder is avoided. -/
theorem Bld.avoid {w : World} {base b : Nat} {S : St} {A : Nat → Prop} {g : Nat} (h : Bld w base b S A) (hg : w.heap.size ≤ g) : Bld w base b S (fun q => A q ∨ q = g) := by
  obtain ⟨vr, R, vh, H, h⟩ := h
  have key : ∀ s : Lc, LinT w s → Av A s → Av (fun q => A q ∨ q = g) s := fun s hs ha hl a e hq => by
    rcases hq with hq | hq
    · exact ha hl a e hq
    · obtain ⟨b', off, cs, e2, gb⟩ := hs.blk hl
      rw [e2] at e
      cases e
      have := gb.lt
      simp only at hq
      omega
  exact ⟨vr, R, vh, H, h.blk, h.lo, h.rows, h.hints, h.rok, h.hok, h.rv, h.hv, fun r hr => ⟨key _ (h.rok r hr).1 (h.rav r hr).1, key _ (h.rok r hr).2.1 (h.rav r hr).2.1, key _ (h.rok r hr).2.2 (h.rav r hr).2.2⟩, fun r hr => ⟨key _ (h.hok r hr).1 (h.hav r hr).1, key _ (h.hok r hr).2.1 (h.hav r hr).2⟩⟩
end Go.Proofs.Ytlgjnidphldiiaa
