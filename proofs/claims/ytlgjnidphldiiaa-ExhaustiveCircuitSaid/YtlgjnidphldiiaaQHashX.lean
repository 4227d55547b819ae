/- The permutation: what it computes, in plain Lean, and the walks of the program and of the reference. -/
import Derived.Test.YtlgjnidphldiiaaQHeadX
import Derived.Test.YtlgjnidphldiiaaQListX
namespace Go.Proofs.Ytlgjnidphldiiaa
open Go.RowKit

def sbox (p r i x : Int) : Int := fpow p (fadd p x (fconst p r i)) (fexp p)
def sub3 (p r : Int) (s : T3) : T3 := ⟨sbox p r 0 s.a, sbox p r 1 s.b, sbox p r 2 s.c⟩
def permN (p : Int) : Nat → T3 → T3
  | 0, s => s
  | k + 1, s => mix p (sub3 p k (permN p k s))
def permute (p : Int) (s : T3) : T3 := if vld p then permN p 8 s else ⟨0, 0, 0⟩

/-- A state in its block, the result's block behind it, the field in a third. -/
structure PS (pr : Bool) (p : Int) (w wr : World) (x : T3) : Prop where
  src : Blk wr w.heap.size (A3 x) 112
  res : Blk wr (w.heap.size + 1) (A3 ⟨0, 0, 0⟩) 112
  fld : pr = true → Blk wr (w.heap.size + 2) #[.int .u64 p] 102
  b : Below w.heap.size w wr

theorem PS.mono {pr : Bool} {p : Int} {w wr w2 : World} {x : T3} (H : PS pr p w wr x) (hb : Below wr.heap.size wr w2) : PS pr p w w2 x :=
  ⟨H.src.mono hb, H.res.mono hb, fun h => (H.fld h).mono hb, below2 H.b hb⟩

theorem PS.set {pr : Bool} {p : Int} {w wr : World} {x y : T3} (H : PS pr p w wr x) (k : Nat) (v : Value) (he : (A3 x).setIfInBounds k v = A3 y) : PS pr p w (wr.setCell ⟨w.heap.size, k, none⟩ v) y :=
  ⟨by have := H.src.set k v; rwa [he] at this, H.res.other (by omega) _ _, fun h => (H.fld h).other (by omega) _ _, H.b.setCell (Nat.le_refl _) _⟩

end Go.Proofs.Ytlgjnidphldiiaa

/- The walk of the reference's permutation. -/
namespace Go.Proofs.Ytlgjnidphldiiaa
open Go.RowKit

end Go.Proofs.Ytlgjnidphldiiaa

/- The sponge: what absorbing computes, in plain Lean, and the program's walk. -/
namespace Go.Proofs.Ytlgjnidphldiiaa
open Go.RowKit

def absL (p : Int) : List Int → T3 → T3
  | [], s => s
  | [x], s => permute p ⟨fadd p s.a x, s.b, s.c⟩
  | x :: y :: r, s => absL p r (permute p ⟨fadd p s.a x, fadd p s.b y, s.c⟩)
def absI (p lb n : Int) : T3 := ⟨0, 0, fadd p (fmul p lb 65536) n⟩
/-- What is still to be done at element number i. -/
def absF (p : Int) (xs : List Int) (i : Nat) (s : T3) : T3 := if i = 0 ∧ xs = [] then permute p s else absL p (xs.drop i) s
def absorb (p lb : Int) (xs : List Int) : T3 := absF p xs 0 (absI p lb xs.length)

theorem absF_two (p : Int) (xs : List Int) (i : Nat) (s : T3) (h : i + 1 < xs.length) :
    absF p xs i s = absF p xs (i + 2) (permute p ⟨fadd p s.a (xs.getD i 0), fadd p s.b (xs.getD (i + 1) 0), s.c⟩) := by
  have hne : xs ≠ [] := by intro e; subst e; simp at h
  unfold absF
  rw [if_neg (fun h => hne h.2), if_neg (fun h => hne h.2)]
  have e : xs.drop i = xs.getD i 0 :: xs.getD (i + 1) 0 :: xs.drop (i + 2) := by
    rw [List.drop_eq_getElem_cons (by omega), List.drop_eq_getElem_cons (show i + 1 < xs.length by omega)]
    simp [List.getD_eq_getElem?_getD, List.getElem?_eq_getElem (show i < xs.length by omega), List.getElem?_eq_getElem h]
  rw [e, absL]

theorem absF_one (p : Int) (xs : List Int) (i : Nat) (s : T3) (h : i < xs.length) (h2 : ¬ i + 1 < xs.length) :
    absF p xs i s = absF p xs (i + 2) (permute p ⟨fadd p s.a (xs.getD i 0), s.b, s.c⟩) := by
  have hne : xs ≠ [] := by intro e; subst e; simp at h
  unfold absF
  rw [if_neg (fun h => hne h.2), if_neg (fun h => hne h.2)]
  have e : xs.drop i = [xs.getD i 0] := by
    rw [List.drop_eq_getElem_cons (by omega), List.drop_of_length_le (by omega)]
    simp [List.getD_eq_getElem?_getD, List.getElem?_eq_getElem h]
  rw [e, absL, List.drop_of_length_le (by omega), absL]

theorem absF_end (p : Int) (xs : List Int) (i : Nat) (s : T3) (h : xs.length ≤ i) (h0 : i ≠ 0) : absF p xs i s = s := by
  unfold absF
  rw [if_neg (fun h => h0 h.1), List.drop_of_length_le h, absL]

theorem absF_none (p : Int) (xs : List Int) (s : T3) (h : xs = []) : absF p xs 0 s = permute p s := by
  unfold absF
  rw [if_pos ⟨rfl, h⟩]

/-- The result's block, the field's, the state's. -/
structure AS (pr : Bool) (p : Int) (w wr : World) (bf bs : Nat) (s : T3) : Prop where
  res : Blk wr w.heap.size (A3 ⟨0, 0, 0⟩) 112
  fld : pr = true → Blk wr bf #[.int .u64 p] 102
  st : Blk wr bs (A3 s) 112
  b : Below w.heap.size w wr
  n : w.heap.size < bs
  df : bs ≠ bf

theorem AS.mono {pr : Bool} {p : Int} {w wr w2 : World} {bf bs : Nat} {x : T3} (H : AS pr p w wr bf bs x) (hb : Below wr.heap.size wr w2) : AS pr p w w2 bf bs x :=
  ⟨H.res.mono hb, fun h => (H.fld h).mono hb, H.st.mono hb, below2 H.b hb, H.n, H.df⟩

theorem AS.set {pr : Bool} {p : Int} {w wr : World} {bf bs : Nat} {x y : T3} (H : AS pr p w wr bf bs x) (k : Nat) (v : Value) (he : (A3 x).setIfInBounds k v = A3 y) : AS pr p w (wr.setCell ⟨bs, k, none⟩ v) bf bs y :=
  ⟨H.res.other (by have := H.n; omega) _ _, fun h => (H.fld h).other H.df _ _, by have := H.st.set k v; rwa [he] at this, H.b.setCell (Nat.le_of_lt H.n) _, H.n, H.df⟩

end Go.Proofs.Ytlgjnidphldiiaa

/- The walk of the reference's absorbing. -/
namespace Go.Proofs.Ytlgjnidphldiiaa
open Go.RowKit

end Go.Proofs.Ytlgjnidphldiiaa

/- The sponge: Hash, in the program and in the reference. -/
namespace Go.Proofs.Ytlgjnidphldiiaa
open Go.RowKit

def hash (p lb : Int) (xs : List Int) : Int := if vld p then (absorb p lb xs).a else 0

end Go.Proofs.Ytlgjnidphldiiaa
