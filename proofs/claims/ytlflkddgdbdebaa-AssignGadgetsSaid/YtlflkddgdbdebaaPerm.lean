/- The contracts of the permutation's constants and mixing, of the program and of the reference. -/
import Derived.Test.YtlflkddgdbdebaaRef1b
import Derived.Test.YtlflkddgdbdebaaMix
namespace Go.Proofs.Ytlflkddgdbdebaa
open Go.RowKit

/-- A round constant. -/
def fconst (p r i : Int) : Int := if 0 ≤ r ∧ r < 8 ∧ 0 ≤ i ∧ i ≤ 2 then fred p (((3 * r + i + 1) * 11400714819323198485) % 18446744073709551616) else 0

theorem fconst_bd (p r i : Int) : 0 ≤ fconst p r i ∧ fconst p r i < 18446744073709551616 := by
  unfold fconst
  split
  · exact fred_bd _ _
  · decide

/-- A state. -/
structure T3 where
  a : Int
  b : Int
  c : Int
  deriving DecidableEq

def W3 (s : T3) : Prop := (0 ≤ s.a ∧ s.a < 18446744073709551616) ∧ (0 ≤ s.b ∧ s.b < 18446744073709551616) ∧ (0 ≤ s.c ∧ s.c < 18446744073709551616)

def sum3 (p : Int) (s : T3) : Int := fadd p (fadd p s.a s.b) s.c
def mix (p : Int) (s : T3) : T3 := ⟨fadd p s.a (sum3 p s), fadd p s.b (sum3 p s), fadd p s.c (sum3 p s)⟩
def unmix (p : Int) (s : T3) : T3 := ⟨fsub p s.a (fdiv p (sum3 p s) 4), fsub p s.b (fdiv p (sum3 p s) 4), fsub p s.c (fdiv p (sum3 p s) 4)⟩
def red3 (p : Int) (s : T3) : T3 := ⟨fred p s.a, fred p s.b, fred p s.c⟩

theorem mix_W3 (p : Int) (s : T3) : W3 (mix p s) := ⟨fadd_bd _ _ _, fadd_bd _ _ _, fadd_bd _ _ _⟩
theorem unmix_W3 (p : Int) (s : T3) : W3 (unmix p s) := ⟨fsub_bd _ _ _, fsub_bd _ _ _, fsub_bd _ _ _⟩
theorem red3_W3 (p : Int) (s : T3) : W3 (red3 p s) := ⟨fred_bd _ _, fred_bd _ _, fred_bd _ _⟩

/-- The array of which the first k elements are set. -/
def outA (m : T3) (k : Nat) : Array Value := #[.int .u64 (if 0 < k then m.a else 0), .int .u64 (if 1 < k then m.b else 0), .int .u64 (if 2 < k then m.c else 0)]
def A3 (m : T3) : Array Value := #[.int .u64 m.a, .int .u64 m.b, .int .u64 m.c]

theorem fadd0 (p a b : Int) : fadd p (fadd p 0 a) b = fadd p a b := by
  unfold fadd
  split
  · rw [Int.zero_add, Int.emod_add_emod]
  · rfl
theorem fsum3 (p : Int) (s : T3) : fsum p [s.a, s.b, s.c] = sum3 p s := by
  simp only [fsum, sum3, List.foldl, fadd0]

/-- A slice of three words, in a block that is known. -/
theorem sl3 {w : World} {b : Nat} {T : TypeId} {x y z : Int} (h : Blk w b #[.int .u64 x, .int .u64 y, .int .u64 z] T) : Sl w .u64 (some ⟨b, 0, none⟩) [x, y, z] := fun _ =>
  ⟨b, 0, rfl, h.lt, fun i hi => by
    rw [Nat.zero_add]
    match i, hi with
    | 0, _ => exact h.cell rfl
    | 1, _ => exact h.cell rfl
    | 2, _ => exact h.cell rfl⟩

/-- What holds at the head of the loop that fills an array of three. -/
structure FillAt (w wr : World) (b0 b1 bo : Nat) (s m : T3) (k : Nat) : Prop where
  src : Blk wr b0 (A3 s) 96
  res : Blk wr b1 (A3 ⟨0, 0, 0⟩) 96
  out : Blk wr bo (outA m k) 96
  b : Below w.heap.size w wr
  n0 : w.heap.size ≤ b0
  n1 : w.heap.size ≤ b1
  no : w.heap.size ≤ bo
  d0 : bo ≠ b0
  d1 : bo ≠ b1

theorem name_calls {P : Program} {f : FuncId} {args : Array Value} {R : Ending → World → Prop} {w0 : World} (h : ∀ W, W = w0 → Calls P f args W R) : Calls P f args w0 R := h _ rfl

end Go.Proofs.Ytlflkddgdbdebaa
