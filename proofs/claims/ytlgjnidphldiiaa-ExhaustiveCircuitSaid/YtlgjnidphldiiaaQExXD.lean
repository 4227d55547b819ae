/- Exhaustive search, reference: complete. -/
import Derived.Test.YtlgjnidphldiiaaQExXC
import Derived.Test.YtlgjnidphldiiaaQFork
import Derived.Test.YtlgjnidphldiiaaQCircS
namespace Go.Proofs.Ytlgjnidphldiiaa
open Go.ChangeShapes Go.WideShapes Go.ChangeAt Go.RowKit

end Go.Proofs.Ytlgjnidphldiiaa

/- Exhaustive search, reference: count. -/
namespace Go.Proofs.Ytlgjnidphldiiaa
open Go.ChangeShapes Go.WideShapes Go.ChangeAt Go.RowKit

/-- Slices of words, as slices of elements of one cell. -/
def uL : Lay Int := ⟨fun x => [.int .u64 x], 1, fun _ => rfl, by decide, fun x u hu => by rw [List.mem_singleton] at hu; subst hu; rfl⟩
theorem uL_flat (xs : List Int) : xs.flatMap uL.f = xs.map (Value.int .u64) := by
  induction xs with
  | nil => rfl
  | cons x xs ih => rw [List.flatMap_cons, List.map_cons, ih]; rfl
theorem Own.toG {w : World} {base : Nat} {E : TypeId} {v : Value} {xs : List Int} (h : Own w base E .u64 v xs) : OwnG uL w base E v xs := by
  unfold OwnG
  rw [uL_flat]
  exact h
theorem OwnG.toU {w : World} {base : Nat} {E : TypeId} {v : Value} {xs : List Int} (h : OwnG uL w base E v xs) : Own w base E .u64 v xs := by
  unfold OwnG at h
  rw [uL_flat] at h
  exact h
theorem Sl.toG {w : World} {a : Option Addr} {xs : List Int} (h : Sl w .u64 a xs) : SlG uL w a xs := fun h0 => by
  obtain ⟨b, off, e, hl, hc⟩ := h h0
  refine ⟨b, off, e, hl, fun k u hu => ?_⟩
  rw [uL_flat, List.getElem?_map] at hu
  cases hg : xs[k]? with
  | none => rw [hg] at hu; cases hu
  | some y =>
    rw [hg] at hu
    cases hu
    have hk : k < xs.length := (List.getElem?_eq_some_iff.1 hg).1
    have := hc k hk
    rw [List.getD_eq_getElem?_getD, hg] at this
    exact this
/-- A new slice: without elements; with some cells. -/
def NewE0 (n : Nat) (E : TypeId) (v : Value) (w : World) : Prop := ∃ b, v = .slice (some ⟨b, 0, none⟩) 0 0 ∧ n ≤ b ∧ Blk w b #[] E
theorem NewE0.keep {n : Nat} {E : TypeId} {v : Value} {w w' : World} (h : NewE0 n E v w) (hb : Below w.heap.size w w') : NewE0 n E v w' := by
  obtain ⟨b, h1, h2, h3⟩ := h
  exact ⟨b, h1, h2, h3.mono hb⟩
def NewB1 (n : Nat) (cs : Array Value) (E : TypeId) (v : Value) (w : World) : Prop := ∃ b, v = .slice (some ⟨b, 0, none⟩) 1 1 ∧ n ≤ b ∧ Blk w b cs E
theorem NewB1.keep {n : Nat} {cs : Array Value} {E : TypeId} {v : Value} {w w' : World} (h : NewB1 n cs E v w) (hb : Below w.heap.size w w') : NewB1 n cs E v w' := by
  obtain ⟨b, h1, h2, h3⟩ := h
  exact ⟨b, h1, h2, h3.mono hb⟩
end Go.Proofs.Ytlgjnidphldiiaa

/- Exhaustive search, reference: Count, Right, Few. -/
namespace Go.Proofs.Ytlgjnidphldiiaa
open Go.ChangeShapes Go.WideShapes Go.ChangeAt Go.RowKit

end Go.Proofs.Ytlgjnidphldiiaa
