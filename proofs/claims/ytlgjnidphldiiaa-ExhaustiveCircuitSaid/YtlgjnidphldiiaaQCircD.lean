/- Circuits in memory: linear combinations, rows, hints. -/
import Derived.Test.YtlgjnidphldiiaaQListX
import Derived.Deep.SlicePairs
namespace Go.Proofs.Ytlgjnidphldiiaa
open Go.ChangeShapes Go.WideShapes Go.ChangeAt Go.RowKit

/-- A linear combination: a slice of terms, each a variable and a coefficient. -/
def LinS (w : World) (a : Option Addr) (L : List (Int × Int)) : Prop :=
  0 < L.length → ∃ b off, a = some ⟨b, off, none⟩ ∧ b < w.heap.size ∧ ∀ i, i < L.length → w.cell? ⟨b, off + i * 2, none⟩ = some (.int .i64 (L.getD i (0, 0)).1) ∧ w.cell? ⟨b, off + i * 2 + 1, none⟩ = some (.int .u64 (L.getD i (0, 0)).2)
theorem LinS.mono {w w' : World} {a : Option Addr} {L : List (Int × Int)} (h : LinS w a L) (hb : Below w.heap.size w w') : LinS w' a L := fun h0 => by
  obtain ⟨b, off, e, hl, hc⟩ := h h0
  exact ⟨b, off, e, Nat.lt_of_lt_of_le hl hb.size, fun i hi => ⟨cell_below hb (hc i hi).1, cell_below hb (hc i hi).2⟩⟩
def LinW (L : List (Int × Int)) : Prop := ∀ t ∈ L, (Lit.int .i64 t.1).wf = true ∧ (Lit.int .u64 t.2).wf = true

section
variable {H : Type} {enc : TypeId × Value → H} {P : Program} {w : World}

end

/-- A slice of terms: its address, its capacity, its terms. -/
structure Lc where
  ad : Option Addr
  cap : Nat
  l : List (Int × Int)
instance : Inhabited Lc := ⟨⟨none, 0, []⟩⟩
structure LcOk (w : World) (s : Lc) : Prop where
  sl : LinS w s.ad s.l
  wl : LinW s.l
  le : s.l.length ≤ s.cap
  mx : s.cap ≤ maxLen
theorem LcOk.mono {w w' : World} {s : Lc} (h : LcOk w s) (hb : Below w.heap.size w w') : LcOk w' s := ⟨h.sl.mono hb, h.wl, h.le, h.mx⟩

/-- A row. -/
structure Rw where
  a : Lc
  b : Lc
  c : Lc
instance : Inhabited Rw := ⟨⟨default, default, default⟩⟩
/-- A hint. -/
structure Hn where
  k : Int
  a : Lc
  b : Lc
  bit : Int
instance : Inhabited Hn := ⟨⟨0, default, default, 0⟩⟩

/-- A slice of rows. -/
structure RowsP (w : World) (a : Option Addr) (cap : Nat) (R : List Rw) : Prop where
  s : 0 < R.length → ∃ b off, a = some ⟨b, off, none⟩ ∧ b < w.heap.size ∧ ∀ i, i < R.length → w.cell? ⟨b, off + i * 3, none⟩ = some (.slice (R.getD i default).a.ad (R.getD i default).a.l.length (R.getD i default).a.cap) ∧
    w.cell? ⟨b, off + i * 3 + 1, none⟩ = some (.slice (R.getD i default).b.ad (R.getD i default).b.l.length (R.getD i default).b.cap) ∧ w.cell? ⟨b, off + i * 3 + 2, none⟩ = some (.slice (R.getD i default).c.ad (R.getD i default).c.l.length (R.getD i default).c.cap)
  ok : ∀ r ∈ R, LcOk w r.a ∧ LcOk w r.b ∧ LcOk w r.c
  le : R.length ≤ cap
  mx : cap ≤ maxLen
  nil : a = none → cap = 0
theorem RowsP.mono {w w' : World} {a : Option Addr} {cap : Nat} {R : List Rw} (h : RowsP w a cap R) (hb : Below w.heap.size w w') : RowsP w' a cap R :=
  ⟨fun h0 => by
    obtain ⟨b, off, e, hl, hc⟩ := h.s h0
    exact ⟨b, off, e, Nat.lt_of_lt_of_le hl hb.size, fun i hi => ⟨cell_below hb (hc i hi).1, cell_below hb (hc i hi).2.1, cell_below hb (hc i hi).2.2⟩⟩,
  fun r hr => ⟨(h.ok r hr).1.mono hb, (h.ok r hr).2.1.mono hb, (h.ok r hr).2.2.mono hb⟩, h.le, h.mx, h.nil⟩
theorem RowsP.empty (w : World) : RowsP w none 0 [] := ⟨fun h => absurd h (by simp), fun r hr => (by cases hr), Nat.le_refl _, by simp, fun _ => rfl⟩

/-- A slice of hints. -/
structure HintsP (w : World) (a : Option Addr) (cap : Nat) (R : List Hn) : Prop where
  s : 0 < R.length → ∃ b off, a = some ⟨b, off, none⟩ ∧ b < w.heap.size ∧ ∀ i, i < R.length → w.cell? ⟨b, off + i * 4, none⟩ = some (.int .i64 (R.getD i default).k) ∧ w.cell? ⟨b, off + i * 4 + 1, none⟩ = some (.slice (R.getD i default).a.ad (R.getD i default).a.l.length (R.getD i default).a.cap) ∧
    w.cell? ⟨b, off + i * 4 + 2, none⟩ = some (.slice (R.getD i default).b.ad (R.getD i default).b.l.length (R.getD i default).b.cap) ∧ w.cell? ⟨b, off + i * 4 + 3, none⟩ = some (.int .i64 (R.getD i default).bit)
  ok : ∀ r ∈ R, LcOk w r.a ∧ LcOk w r.b ∧ (Lit.int .i64 r.k).wf = true ∧ (Lit.int .i64 r.bit).wf = true
  le : R.length ≤ cap
  mx : cap ≤ maxLen
  nil : a = none → cap = 0
theorem HintsP.mono {w w' : World} {a : Option Addr} {cap : Nat} {R : List Hn} (h : HintsP w a cap R) (hb : Below w.heap.size w w') : HintsP w' a cap R :=
  ⟨fun h0 => by
    obtain ⟨b, off, e, hl, hc⟩ := h.s h0
    exact ⟨b, off, e, Nat.lt_of_lt_of_le hl hb.size, fun i hi => ⟨cell_below hb (hc i hi).1, cell_below hb (hc i hi).2.1, cell_below hb (hc i hi).2.2.1, cell_below hb (hc i hi).2.2.2⟩⟩,
  fun r hr => ⟨(h.ok r hr).1.mono hb, (h.ok r hr).2.1.mono hb, (h.ok r hr).2.2⟩, h.le, h.mx, h.nil⟩
theorem HintsP.empty (w : World) : HintsP w none 0 [] := ⟨fun h => absurd h (by simp), fun r hr => (by cases hr), Nat.le_refl _, by simp, fun _ => rfl⟩
theorem HintsP.cut {w : World} {a : Option Addr} {cap : Nat} {R : List Hn} (h : HintsP w a cap R) {k : Nat} (hk : k ≤ R.length) : HintsP w a cap (R.take k) :=
  have hl : (R.take k).length = k := by rw [List.length_take]; omega
  ⟨fun h0 => by
    obtain ⟨b, off, e, hl2, hc⟩ := h.s (by omega)
    refine ⟨b, off, e, hl2, fun i hi => ?_⟩
    have e : (R.take k).getD i default = R.getD i default := by rw [List.getD_eq_getElem?_getD, List.getD_eq_getElem?_getD, List.getElem?_take_of_lt (by omega)]
    rw [e]
    exact hc i (by omega), fun r hr => h.ok r (List.mem_of_mem_take hr), by have := h.le; omega, h.mx, h.nil⟩

theorem getD_mem' {α : Type} {xs : List α} {i : Nat} (h : i < xs.length) (d : α) : xs.getD i d ∈ xs := by
  rw [List.getD_eq_getElem?_getD, List.getElem?_eq_getElem h]
  exact List.getElem_mem h

theorem list4 {α : Type} {l : List α} (h : l.length = 4) : ∃ a b c d, l = [a, b, c, d] := by
  match l, h with
  | [a, b, c, d], _ => exact ⟨a, b, c, d, rfl⟩

section
variable {H : Type} {enc : TypeId × Value → H} {w : World}

theorem spot_none {a' : Addr} {v : Value} {k : Nat} (this : w.cell? (a'.add (0 * k)) = some v) : ∃ b off, a' = ⟨b, off, none⟩ ∧ b < w.heap.size ∧ ∀ j, (⟨b, off, none⟩ : Addr).add j = ⟨b, off + j, none⟩ := by
  have e : a'.add (0 * k) = a' := by simp [Addr.add]
  rw [e] at this
  have hl := cell_lt this
  unfold World.cell? at this
  split at this
  · cases hsp : a'.spot with
    | none =>
      obtain ⟨b, off, spot⟩ := a'
      simp only at hsp
      subst hsp
      refine ⟨b, off, rfl, hl, fun j => ?_⟩
      unfold Addr.add
      split
      · rename_i h; subst h; rfl
      · rfl
    | some z => rw [hsp] at this; simp at this
  · cases this

end

end Go.Proofs.Ytlgjnidphldiiaa
