/- New arrays of three, and stores of whole arrays. -/
import Derived.Test.YtlgjnidphldiiaaFrame
namespace Go.Proofs.Ytlgjnidphldiiaa
open Go.RowKit

/-- A new array of three. -/
def NewA (n : Nat) (cs : Array Value) (T : TypeId) (v : Value) (w : World) : Prop := ∃ b, v = .pointer (some ⟨b, 0, none⟩) ∧ n ≤ b ∧ Blk w b cs T

theorem NewA.keep {n : Nat} {cs : Array Value} {T : TypeId} {v : Value} {w w' : World} (h : NewA n cs T v w) (hb : Below w.heap.size w w') : NewA n cs T v w' := by
  obtain ⟨b, h1, h2, h3⟩ := h
  exact ⟨b, h1, h2, h3.mono hb⟩

theorem rUpon_alloc3 (W : World) (p : Later) (fr : Bool) (T : TypeId) :
    Rel.rUpon Try.prog (later W p) fr (NewA W.heap.size (A3 ⟨0, 0, 0⟩) T) (.ok (.value (.pointer (some ⟨(later W p).heap.size, 0, none⟩))) ((later W p).alloc (.cells #[.int .u64 0, .int .u64 0, .int .u64 0] T))) :=
  ⟨(Below.refl _ _).alloc (Nat.le_refl _) _, ⟨_, rfl, (below_later W p).size, Blk.new _ _ _⟩, fun _ => ⟨_, rfl, Nat.le_refl _, by simp⟩⟩

theorem Blk.other3 {w : World} {b c : Nat} {cs : Array Value} {T : TypeId} (h : Blk w b cs T) (hbc : c ≠ b) (x y z : Value) : Blk (((w.setCell ⟨c, 0, none⟩ x).setCell ⟨c, 1, none⟩ y).setCell ⟨c, 2, none⟩ z) b cs T :=
  ((h.other hbc _ _).other hbc _ _).other hbc _ _
theorem Blk.set3 {w : World} {b : Nat} {p q r x y z : Value} {T : TypeId} (h : Blk w b #[p, q, r] T) : Blk (((w.setCell ⟨b, 0, none⟩ x).setCell ⟨b, 1, none⟩ y).setCell ⟨b, 2, none⟩ z) b #[x, y, z] T :=
  ((h.set 0 x).set 1 y).set 2 z
theorem below_set3 {w w' : World} {n c : Nat} (h : Below n w w') (hc : n ≤ c) (x y z : Value) : Below n w (((w'.setCell ⟨c, 0, none⟩ x).setCell ⟨c, 1, none⟩ y).setCell ⟨c, 2, none⟩ z) :=
  ((h.setCell (by exact hc) _).setCell (by exact hc) _).setCell (by exact hc) _

end Go.Proofs.Ytlgjnidphldiiaa
