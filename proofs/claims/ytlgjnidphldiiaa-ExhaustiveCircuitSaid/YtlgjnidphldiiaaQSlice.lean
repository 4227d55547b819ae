/- Slices of integers: what it is that a slice holds a list, in a world; it stays so when blocks are added. -/
import Derived.Test.YtlgjnidphldiiaaQRelX
namespace Go.Proofs.Ytlgjnidphldiiaa
open Go.RowKit

/-- The slice that begins at a holds the list xs of integers of kind k. -/
def Sl (w : World) (k : IntKind) (a : Option Addr) (xs : List Int) : Prop :=
  0 < xs.length → ∃ b off, a = some ⟨b, off, none⟩ ∧ b < w.heap.size ∧ ∀ i, i < xs.length → w.cell? ⟨b, off + i, none⟩ = some (.int k (xs.getD i 0))

theorem Sl.nil (w : World) (k : IntKind) (a : Option Addr) : Sl w k a [] := fun h => absurd h (by simp)

theorem Sl.mono {w w' : World} {k : IntKind} {a : Option Addr} {xs : List Int} (h : Sl w k a xs) (hb : Below w.heap.size w w') : Sl w' k a xs := fun h0 => by
  obtain ⟨b, off, e, hl, hc⟩ := h h0
  exact ⟨b, off, e, Nat.lt_of_lt_of_le hl hb.size, fun i hi => by rw [hb.cell hl]; exact hc i hi⟩

/-- Element number i. -/
theorem Sl.get {w : World} {k : IntKind} {a : Option Addr} {xs : List Int} (h : Sl w k a xs) {i : Nat} (hi : i < xs.length) :
    ∃ b off, a = some ⟨b, off, none⟩ ∧ b < w.heap.size ∧ w.cell? ⟨b, off + i, none⟩ = some (.int k (xs.getD i 0)) := by
  obtain ⟨b, off, e, hl, hc⟩ := h (by omega)
  exact ⟨b, off, e, hl, hc i hi⟩

/-- All elements are words of 64 bits. -/
def AllW (xs : List Int) : Prop := ∀ x ∈ xs, 0 ≤ x ∧ x < 18446744073709551616

theorem AllW.get {xs : List Int} (h : AllW xs) {i : Nat} (hi : i < xs.length) : 0 ≤ xs.getD i 0 ∧ xs.getD i 0 < 18446744073709551616 := by
  rw [List.getD_eq_getElem?_getD, List.getElem?_eq_getElem hi]
  exact h _ (List.getElem_mem hi)

theorem take_succ_getD {α : Type} (xs : List α) (d : α) {k : Nat} (h : k < xs.length) : xs.take (k + 1) = xs.take k ++ [xs.getD k d] := by
  rw [List.take_succ_eq_append_getElem h, List.getD_eq_getElem?_getD, List.getElem?_eq_getElem h]
  rfl

/-- Block b holds the cells cs, of element type T, and none of them is frozen. -/
def Blk (w : World) (b : Nat) (cs : Array Value) (T : TypeId) : Prop := w.heap[b]? = some (.cells cs T (0, 0))

theorem alloc_at (w : World) (o : Obj) (k : Nat) : (w.alloc o).heap[k]? = if k = w.heap.size then some o else w.heap[k]? := by
  show (w.heap.push o)[k]? = _
  rw [Array.getElem?_push]

theorem Blk.lt {w : World} {b : Nat} {cs : Array Value} {T : TypeId} (h : Blk w b cs T) : b < w.heap.size := by
  unfold Blk at h
  exact (Array.getElem?_eq_some_iff.1 h).1

theorem Blk.cell {w : World} {b : Nat} {cs : Array Value} {T : TypeId} (h : Blk w b cs T) {j : Nat} {v : Value} (hj : cs[j]? = some v) : w.cell? ⟨b, j, none⟩ = some v := by
  unfold Blk at h
  simp [World.cell?, h, hj]

theorem Blk.free {w : World} {b : Nat} {cs : Array Value} {T : TypeId} (h : Blk w b cs T) (j : Nat) : w.frozen? ⟨b, j, none⟩ = false := by
  unfold Blk at h
  simp [World.frozen?, h]

theorem Blk.mono {w w' : World} {b : Nat} {cs : Array Value} {T : TypeId} (h : Blk w b cs T) (hb : Below w.heap.size w w') : Blk w' b cs T := by
  unfold Blk at *
  rw [hb.block b (Array.getElem?_eq_some_iff.1 h).1]; exact h

theorem Blk.new (w : World) (cs : Array Value) (T : TypeId) : Blk (w.alloc (.cells cs T)) w.heap.size cs T := by
  show (w.heap.push _)[w.heap.size]? = _
  simp

theorem Blk.newAt {w : World} {b : Nat} {cs : Array Value} {T : TypeId} (h : b = w.heap.size) : Blk (w.alloc (.cells cs T)) b cs T := by
  subst h; exact Blk.new w cs T

theorem Blk.alloc {w : World} {b : Nat} {cs : Array Value} {T : TypeId} (h : Blk w b cs T) (o : Obj) : Blk (w.alloc o) b cs T :=
  h.mono ((Below.refl _ _).alloc (Nat.le_refl _) o)

theorem Blk.set {w : World} {b : Nat} {cs : Array Value} {T : TypeId} (h : Blk w b cs T) (j : Nat) (v : Value) : Blk (w.setCell ⟨b, j, none⟩ v) b (cs.setIfInBounds j v) T := by
  unfold Blk at *
  show (w.heap.modify b _)[b]? = _
  rw [Array.getElem?_modify, if_pos rfl, h]
  rfl

theorem Blk.other {w : World} {b c : Nat} {cs : Array Value} {T : TypeId} (h : Blk w b cs T) (hbc : c ≠ b) (j : Nat) (v : Value) : Blk (w.setCell ⟨c, j, none⟩ v) b cs T := by
  unfold Blk at *
  show (w.heap.modify c _)[b]? = _
  rw [Array.getElem?_modify, if_neg hbc, h]

end Go.Proofs.Ytlgjnidphldiiaa
