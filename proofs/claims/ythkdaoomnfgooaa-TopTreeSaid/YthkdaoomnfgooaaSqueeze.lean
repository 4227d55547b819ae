/- The sponge: Squeeze, in the program and in the reference. -/
import Derived.Test.YthkdaoomnfgooaaHash
namespace Go.Proofs.Ythkdaoomnfgooaa
open Go.RowKit

def sqS (p : Int) (s : T3) : Nat → T3
  | 0 => s
  | n + 1 => permute p (sqS p s n)
theorem sqS_W3 (p : Int) (s : T3) (h : W3 s) : ∀ n, W3 (sqS p s n)
  | 0 => h
  | n + 1 => permute_W3 _ _ (sqS_W3 p s h n)
def sqE (p : Int) (s : T3) (i : Nat) : Int := if i % 2 = 0 then (sqS p s (i / 2)).a else (sqS p s (i / 2)).b
/-- The first i elements, and zeros. -/
def sqL (p : Int) (s : T3) (n i : Nat) : List Int := (List.range n).map fun j => if j < i then sqE p s j else 0
def sqT (p : Int) (s : T3) (n : Nat) : List Int := (List.range n).map (sqE p s)
def squeeze (p lb : Int) (xs : List Int) (n : Int) : List Int := if vld p = true ∧ 0 ≤ n ∧ n ≤ 65536 then sqT p (absorb p lb xs) n.toNat else []

theorem sqT_succ (p : Int) (s : T3) (n : Nat) : sqT p s (n + 1) = sqT p s n ++ [sqE p s n] := by
  simp [sqT, List.range_succ]
theorem sqL_len (p : Int) (s : T3) (n i : Nat) : (sqL p s n i).length = n := by simp [sqL]
theorem sqL_zero (p : Int) (s : T3) (n : Nat) : sqL p s n 0 = List.replicate n 0 := by
  refine List.ext_getElem (by simp [sqL]) fun i h1 h2 => ?_
  simp [sqL]
theorem sqL_full (p : Int) (s : T3) (n : Nat) : sqL p s n n = sqT p s n := by
  refine List.ext_getElem (by simp [sqL, sqT]) fun i h1 h2 => ?_
  have : i < n := by simpa [sqL] using h1
  simp [sqL, sqT, this]
theorem sqL_set (p : Int) (s : T3) (n i : Nat) : (sqL p s n i).set i (sqE p s i) = sqL p s n (i + 1) := by
  refine List.ext_getElem (by simp [sqL]) fun j h1 h2 => ?_
  rw [List.getElem_set]
  simp only [sqL, List.getElem_map, List.getElem_range]
  by_cases h : i = j
  · subst h
    rw [if_pos rfl, if_pos (by omega)]
  · rw [if_neg h]
    by_cases h3 : j < i
    · rw [if_pos h3, if_pos (by omega)]
    · rw [if_neg h3, if_neg (by omega)]

/-- The state's block and the slice of a round. -/
structure SqR (p : Int) (w wr : World) (bs : Nat) (s0 : T3) (h i : Nat) (v : Value) (l : List Int) : Prop where
  b : Below w.heap.size w wr
  st : Blk wr bs (A3 (sqS p s0 h)) 95
  own : Own wr w.heap.size 30 .u64 v l
  ne : v.ownBlock ≠ some bs
  n : w.heap.size ≤ bs

theorem SqR.mono {p : Int} {w wr w2 : World} {bs : Nat} {s0 : T3} {h i : Nat} {v : Value} {l : List Int} (H : SqR p w wr bs s0 h i v l) (hb : Below wr.heap.size wr w2) : SqR p w w2 bs s0 h i v l :=
  ⟨below2 H.b hb, H.st.mono hb, H.own.mono hb, H.ne, H.n⟩

theorem SqR.app {p : Int} {w wr w2 : World} {bs : Nat} {s0 : T3} {h i : Nat} {v v' : Value} {l l' : List Int} (H : SqR p w wr bs s0 h i v l) (hown : Own w2 w.heap.size 30 .u64 v' l') (hg : Grew wr w2 v v') : SqR p w w2 bs s0 h i v' l' :=
  ⟨hg.below H.b H.own (Nat.le_refl _) H.b.size, hg.blk H.st H.ne, hown, hg.ne _ H.st.lt H.ne, H.n⟩

theorem SqR.perm {p : Int} {w wr : World} {bs : Nat} {s0 : T3} {h i : Nat} {v : Value} {l : List Int} (H : SqR p w wr bs s0 h i v l) (y : T3) (hy : y = sqS p s0 (h + 1)) :
    SqR p w (((wr.setCell ⟨bs, 0, none⟩ (.int .u64 y.a)).setCell ⟨bs, 1, none⟩ (.int .u64 y.b)).setCell ⟨bs, 2, none⟩ (.int .u64 y.c)) bs s0 (h + 1) i v l := by
  subst hy
  exact ⟨below_set3 H.b H.n _ _ _, H.st.set3, ((H.own.other H.ne _).other H.ne _).other H.ne _, H.ne, H.n⟩

theorem SqR.set {p : Int} {w wr : World} {bs rb m : Nat} {s0 : T3} {h i : Nat} {l : List Int} (H : SqR p w wr bs s0 h i (.slice (some ⟨rb, 0, none⟩) m m) l) (x : Int) : SqR p w (wr.setCell ⟨rb, i, none⟩ (.int .u64 x)) bs s0 h (i + 1) (.slice (some ⟨rb, 0, none⟩) m m) (l.set i x) :=
  have hne : rb ≠ bs := fun e => H.ne (by rw [e]; rfl)
  ⟨H.b.setCell (H.own.lt (b := rb) rfl).1 _, H.st.other hne _ _, H.own.set i x, H.ne, H.n⟩

end Go.Proofs.Ythkdaoomnfgooaa
