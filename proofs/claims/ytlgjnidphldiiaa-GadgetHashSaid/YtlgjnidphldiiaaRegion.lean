/- A region that draws its order, whose operations read and whose calls lay new blocks alone: one walk, in the order of the text. Conditions: the region's own static look, and one value for each operation in every later world. -/
import Derived.Deep.QuietTactic
import Derived.BigQuiet
import Derived.Below
import Derived.WalkKit
namespace Go.Proofs.Ytlgjnidphldiiaa
open Go.RowKit

/-- What may have come to a world: draws, and blocks behind its own. -/
structure Later where
  d : Nat
  os : Array Obj
  deriving Inhabited

def later (w : World) (p : Later) : World := { w with heap := w.heap ++ p.os, drawn := p.d }

theorem below_later (w : World) (p : Later) : Below w.heap.size w (later w p) :=
  ⟨rfl, rfl, rfl, by simp [later], fun k hk => by simp [later, Array.getElem?_append, hk]⟩

theorem later_of_below {w w' : World} (h : Below w.heap.size w w') : ∃ p : Later, w' = later w p := by
  refine ⟨⟨w'.drawn, w'.heap.extract w.heap.size w'.heap.size⟩, ?_⟩
  obtain ⟨heap', tape', drawn', os', output'⟩ := w'
  have e1 : os' = w.os := h.os
  have e2 : tape' = w.tape := h.tape
  have e3 : output' = w.output := h.output
  have hs : w.heap.size ≤ heap'.size := h.size
  have hb : ∀ k, k < w.heap.size → heap'[k]? = w.heap[k]? := h.block
  subst e1 e2 e3
  have eh : heap' = w.heap ++ heap'.extract w.heap.size heap'.size := by
    apply Array.ext_getElem?
    intro k
    by_cases hk : k < w.heap.size
    · rw [Array.getElem?_append_left hk]; exact hb k hk
    · rw [Array.getElem?_append_right (by omega), Array.getElem?_extract]
      by_cases hk2 : k < heap'.size
      · rw [if_pos (by omega)]; congr 1; omega
      · rw [if_neg (by omega), Array.getElem?_eq_none (by omega)]
  simp only [later]
  congr 1

theorem cell_lt {w : World} {a : Addr} {v : Value} (h : w.cell? a = some v) : a.block < w.heap.size := by
  unfold World.cell? at h
  by_cases hb : a.block < w.heap.size
  · exact hb
  · rw [Array.getElem?_eq_none (by omega)] at h; simp at h

/-- A cell reads as it did, in every later world. -/
theorem cell_later' {w : World} {a : Addr} {v : Value} (h : w.cell? a = some v) : ∀ p, (later w p).cell? a = some v := fun p => by
  rw [(below_later w p).cell (cell_lt h)]; exact h

theorem cell_below {w w' : World} (hb : Below w.heap.size w w') {a : Addr} {v : Value} (h : w.cell? a = some v) : w'.cell? a = some v := by
  rw [hb.cell (cell_lt h)]; exact h

/-- A callee's contract, met in a later world. -/
theorem Calls.later_of {P : Program} {f : FuncId} {args : Array Value} {w : World} {p : Later} {v : Value}
    (h : Calls P f args (later w p) fun e w' => e = .returned v ∧ Below (later w p).heap.size (later w p) w') : Calls P f args (later w p) fun e w'' => e = .returned v ∧ ∃ p' : Later, w'' = later w p' :=
  h.mono fun _ _ ⟨he, hb⟩ => ⟨he, later_of_below ((below_later w p).trans ⟨hb.os, hb.tape, hb.output, hb.size, fun k hk => hb.block k (Nat.lt_of_lt_of_le hk (below_later w p).size)⟩)⟩

theorem below_of_later {w w' : World} (h : ∃ p : Later, w' = later w p) : Below w.heap.size w w' := by
  obtain ⟨p, rfl⟩ := h
  exact below_later w p

theorem wp_region_later {P : Program} {id : Nat} {Q : Exit → Act → World → Prop} {a : Act} {w : World} {l : List Oper} (hm : P.follows .mixedOrders = true) (hB : Region.lexB .any l.toArray = true)
    (h : wpQuiet P l.toArray (fun w' => ∃ p : Later, w' = later w p) (fun a' => ∀ w', (∃ p : Later, w' = later w p) → Q .normal a' w') l a) : (Code.region id l.toArray true).wp P Q a w :=
  wp_region_quiet (C := fun w' => ∃ p : Later, w' = later w p) hm hB ⟨⟨w.drawn + 1, #[]⟩, by simp [later]⟩ (by simpa using h)

end Go.Proofs.Ytlgjnidphldiiaa
