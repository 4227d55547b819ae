/- Gadgets: Add, Sub, Scale of the program. -/
import Derived.Test.YtlgjnidphldiiaaQGadD
import Derived.Deep.RegionLaw
import Derived.Deep.RegionHeld3
import Derived.Deep.AppendLies
namespace Go.Proofs.Ytlgjnidphldiiaa
open Go.RowKit

theorem fneg_one {p : Int} (hv : vld p = true) : fneg p 1 = p - 1 := by
  have hp := vld_pos hv
  unfold fneg
  rw [if_pos hv]
  rw [show -(1 : Int) = (p - 1) + p * (-1) by omega, Int.add_mul_emod_self_left, Int.emod_eq_of_lt (by omega) (by omega)]
end Go.Proofs.Ytlgjnidphldiiaa

/- Gadgets: a row is added to a builder. -/
namespace Go.Proofs.Ytlgjnidphldiiaa
open Go.RowKit

theorem blk_type {w : World} {b : Nat} {cs cs' : Array Value} {T T' : TypeId} (h : Blk w b cs T) (h' : Blk w b cs' T') : T = T' := by
  have := h.symm.trans h'
  injection this with this
  injection this with _ this
theorem Kept.setB {w : World} {base b j : Nat} {cs : Array Value} {u : Value} (g : Blk w b cs 104) (hb : base ≤ b) : Kept base w (w.setCell ⟨b, j, none⟩ u) :=
  ⟨(Below.refl _ _).setCell hb _, fun q cs' T' g' _ _ h3 => g'.other (fun e => by subst e; exact h3 (blk_type g' g)) _ _⟩
theorem Kept.grewG {α : Type} {L : Lay α} {w w' : World} {base : Nat} {T : TypeId} {v v' : Value} {xs : List α} (ho : OwnG L w base T v xs) (hg : Grew w w' v v') (hT : T = 106 ∨ T = 108) (hb : base ≤ w.heap.size) : Kept base w w' :=
  ⟨hg.belowG (Below.refl _ _) ho (Nat.le_refl _) hb, fun q cs' T' g' h1 h2 _ => hg.blk g' (ho.neq g' (fun e => by rcases hT with h | h <;> rw [h] at e <;> first | exact h1 e.symm | exact h2 e.symm))⟩
theorem OwnG.grewT {α β : Type} {L : Lay α} {M : Lay β} {w w' : World} {base : Nat} {T U : TypeId} {v v' u : Value} {xs : List α} {ys : List β} (hu : OwnG M w base U u ys) (ho : OwnG L w base T v xs) (hg : Grew w w' v v') (hT : ¬ T = U) : OwnG M w' base U u ys := by
  rcases hu.form with ⟨rfl, rfl⟩ | ⟨g, cap, cur, rfl, h1, h2, h3, h4, h5, h6⟩
  · exact OwnG.nil _ _ _ _
  · exact OwnG.of_blk h1 (hg.blk h2 (ho.neq h2 hT)) h3 h4 h5 h6

theorem BS.addRow {w w' : World} {base b : Nat} {S : St} {vr vr' vh : Value} {R : List Rw} {H : List Hn} {r : Rw} {A : Nat → Prop} (h : BS w base b S vr R vh H A) (hg : Grew w w' vr vr') (ho : OwnG rwL w' base 106 vr' (R ++ [r])) (hr : LinT w r.a ∧ LinT w r.b ∧ LinT w r.c) (hav : Av A r.a ∧ Av A r.b ∧ Av A r.c) :
    BS (w'.setCell ⟨b, 4, none⟩ vr') base b { S with R := S.R ++ [r.val] } vr' (R ++ [r]) vh H A ∧ Kept base w (w'.setCell ⟨b, 4, none⟩ vr') := by
  have g1 := hg.blk h.blk (h.rows.neq h.blk (by decide))
  have k1 := Kept.grewG h.rows hg (.inl rfl) h.lt
  have k : Kept base w (w'.setCell ⟨b, 4, none⟩ vr') := k1.trans (Kept.setB g1 h.lo)
  refine ⟨⟨g1.set 4 vr', h.lo, ho.other (ho.neq g1 (by decide)) _, (h.hints.grewT h.rows hg (by decide)).other ((h.hints.grewT h.rows hg (by decide)).neq g1 (by decide)) _, fun q hq => ?_, fun q hq => ?_, by rw [List.map_append, h.rv]; rfl, h.hv, fun q hq => by
    rcases List.mem_append.1 hq with h1 | h1
    · exact h.rav q h1
    · rw [List.mem_singleton] at h1; subst h1; exact hav, h.hav⟩, k⟩
  · rcases List.mem_append.1 hq with h1 | h1
    · obtain ⟨i1, i2, i3⟩ := h.rok q h1
      exact ⟨k.lin i1, k.lin i2, k.lin i3⟩
    · rw [List.mem_singleton] at h1
      subst h1
      exact ⟨k.lin hr.1, k.lin hr.2.1, k.lin hr.2.2⟩
  · obtain ⟨i1, i2, i3⟩ := h.hok q hq
    exact ⟨k.lin i1, k.lin i2, i3⟩

end Go.Proofs.Ytlgjnidphldiiaa

/- Gadgets: a variable with a hint is added to a builder. -/
namespace Go.Proofs.Ytlgjnidphldiiaa
open Go.RowKit

/-- A linear combination, among the relational operations of a region. -/
def IsLn (L : Lin) (v : Value) (w : World) : Prop := ∃ s : Lc, v = .slice s.ad s.l.length s.cap ∧ Hid (s.l = L) ∧ LinT w s
def IsLnF (n : Nat) (L : Lin) (v : Value) (w : World) : Prop := ∃ s : Lc, v = .slice s.ad s.l.length s.cap ∧ Hid (s.l = L) ∧ LinT w s ∧ Hid (∀ a, s.ad = some a → n ≤ a.block)
theorem IsLnF.mono {n : Nat} {L : Lin} {v : Value} {w w' : World} (h : IsLnF n L v w) (hb : Below w.heap.size w w') : IsLnF n L v w' := by
  obtain ⟨s, h1, h2, h3, h4⟩ := h
  exact ⟨s, h1, h2, h3.mono hb, h4⟩
theorem IsLn.mono {L : Lin} {v : Value} {w w' : World} (h : IsLn L v w) (hb : Below w.heap.size w w') : IsLn L v w' := by
  obtain ⟨s, h1, h2, h3⟩ := h
  exact ⟨s, h1, h2, h3.mono hb⟩
theorem rU_ln {P : Program} {f : FuncId} {args : Array Value} {W : World} {q : Later} {L : Lin} (h : Calls P f args (later W q) (RetLn (later W q) L)) :
    Rel.rUpon P (later W q) false (IsLn L) (.ok (.enter f args) (later W q)) :=
  ⟨rfl, h.mono fun _ _ ⟨s, he, h1, h2, hb⟩ => ⟨_, he, hb, ⟨s, rfl, h1, h2⟩, fun h => by cases h⟩⟩
theorem rU_of' {P : Program} {w : World} {fr fr' : Bool} {φ : Value → World → Prop} {r r' : Result Next} (hf : fr' = fr) (h : r' = r) (h2 : Rel.rUpon P w fr φ r) : Rel.rUpon P w fr' φ r' := by
  subst hf h; exact h2

theorem BS.addHint {w w' : World} {base b : Nat} {S : St} {vr vh vh' : Value} {R : List Rw} {H : List Hn} {r : Hn} {A : Nat → Prop} (h : BS w base b S vr R vh H A) (hg : Grew w w' vh vh') (ho : OwnG hnL w' base 108 vh' (H ++ [r])) (hr : LinT w r.a ∧ LinT w r.b ∧ (Lit.int .i64 r.k).wf = true ∧ (Lit.int .i64 r.bit).wf = true) (hav : Av A r.a ∧ Av A r.b) :
    BS (w'.setCell ⟨b, 6, none⟩ vh') base b { S with H := S.H ++ [r.val] } vr R vh' (H ++ [r]) A ∧ Kept base w (w'.setCell ⟨b, 6, none⟩ vh') := by
  have g1 := hg.blk h.blk (h.hints.neq h.blk (by decide))
  have k1 := Kept.grewG h.hints hg (.inr rfl) h.lt
  have k : Kept base w (w'.setCell ⟨b, 6, none⟩ vh') := k1.trans (Kept.setB g1 h.lo)
  refine ⟨⟨g1.set 6 vh', h.lo, (h.rows.grewT h.hints hg (by decide)).other ((h.rows.grewT h.hints hg (by decide)).neq g1 (by decide)) _, ho.other (ho.neq g1 (by decide)) _, fun q hq => ?_, fun q hq => ?_, h.rv, by rw [List.map_append, h.hv]; rfl, h.rav, fun q hq => by
    rcases List.mem_append.1 hq with h1 | h1
    · exact h.hav q h1
    · rw [List.mem_singleton] at h1; subst h1; exact hav⟩, k⟩
  · obtain ⟨i1, i2, i3⟩ := h.rok q hq
    exact ⟨k.lin i1, k.lin i2, k.lin i3⟩
  · rcases List.mem_append.1 hq with h1 | h1
    · obtain ⟨i1, i2, i3⟩ := h.hok q h1
      exact ⟨k.lin i1, k.lin i2, i3⟩
    · rw [List.mem_singleton] at h1
      subst h1
      exact ⟨k.lin hr.1, k.lin hr.2.1, hr.2.2⟩
theorem BS.setVars {w : World} {base b : Nat} {S : St} {vr vh : Value} {R : List Rw} {H : List Hn} {A : Nat → Prop} (h : BS w base b S vr R vh H A) (n : Int) :
    BS (w.setCell ⟨b, 3, none⟩ (.int .i64 n)) base b { S with vars := n } vr R vh H A ∧ Kept base w (w.setCell ⟨b, 3, none⟩ (.int .i64 n)) := by
  have k : Kept base w (w.setCell ⟨b, 3, none⟩ (.int .i64 n)) := Kept.setB h.blk h.lo
  refine ⟨⟨h.blk.set 3 _, h.lo, h.rows.other (h.rows.neq h.blk (by decide)) _, h.hints.other (h.hints.neq h.blk (by decide)) _, fun q hq => ?_, fun q hq => ?_, h.rv, h.hv, h.rav, h.hav⟩, k⟩
  · obtain ⟨i1, i2, i3⟩ := h.rok q hq
    exact ⟨k.lin i1, k.lin i2, k.lin i3⟩
  · obtain ⟨i1, i2, i3⟩ := h.hok q hq
    exact ⟨k.lin i1, k.lin i2, i3⟩

end Go.Proofs.Ytlgjnidphldiiaa

/- Gadgets: Mul, Not, Assert, Boolean, IsZero, Equal, And, Or of the program. -/
namespace Go.Proofs.Ytlgjnidphldiiaa
open Go.RowKit

/-- The gadgets, on values. -/
def addL (p : Int) (x y : Lin) : Lin := addP p x y 1
def subL (p : Int) (x y : Lin) : Lin := addP p x y (fneg p 1)
def gRow (S : St) (x y z : Lin) : St := { S with R := S.R ++ [⟨x, y, z⟩] }
def gHint (S : St) (k : Int) (x y : Lin) (bit : Int) : St := { S with vars := S.vars + 1, H := S.H ++ [⟨k, x, y, bit⟩] }
def nv (S : St) : Lin := [(S.vars, 1)]
def gMul (S : St) (x y : Lin) : St := gRow (gHint S 1 x y 0) x y (nv S)
def gNot (p : Int) (x : Lin) : Lin := subL p [(0, 1)] x
def gAssert (S : St) (x y : Lin) : St := gRow S (subL S.p x y) [(0, 1)] []
def gBool (S : St) (x : Lin) : St := gRow S x x x
def gIsZero (S : St) (x : Lin) : St × Lin :=
  let S1 := gHint S 2 x [] 0
  let S2 := gMul S1 x (nv S)
  let z := gNot S.p (nv S1)
  (gRow (gRow S2 x z []) (nv S) z [], z)
def gEqual (S : St) (x y : Lin) : St × Lin := gIsZero S (subL S.p x y)
def gOr (S : St) (x y : Lin) : St × Lin := (gMul S x y, subL S.p (addL S.p x y) (nv S))
def gSelect (S : St) (c x y : Lin) : St × Lin := (gMul S c (subL S.p x y), addL S.p y (nv S))

/-- Bounds of a circuit under way. -/
structure Bd (S : St) (n : Int) : Prop where
  v : 0 ≤ S.vars ∧ S.vars ≤ n
  r : (S.R.length : Int) ≤ n
  h : (S.H.length : Int) ≤ n
theorem Bd.up {S : St} {n m : Int} (h : Bd S n) (hm : n ≤ m) : Bd S m := ⟨⟨h.v.1, by have := h.v.2; omega⟩, by have := h.r; omega, by have := h.h; omega⟩
theorem Bd.row {S : St} {n : Int} {x y z : Lin} (h : Bd S n) : Bd (gRow S x y z) (n + 1) := ⟨⟨h.v.1, by have := h.v.2; show S.vars ≤ _; omega⟩, by have := h.r; show ((S.R ++ [_]).length : Int) ≤ _; simp; omega, by have := h.h; show (S.H.length : Int) ≤ _; omega⟩
theorem Bd.hint {S : St} {n k bit : Int} {x y : Lin} (h : Bd S n) : Bd (gHint S k x y bit) (n + 1) := ⟨⟨by have := h.v.1; show 0 ≤ S.vars + 1; omega, by have := h.v.2; show S.vars + 1 ≤ _; omega⟩, by have := h.r; show (S.R.length : Int) ≤ _; omega, by have := h.h; show ((S.H ++ [_]).length : Int) ≤ _; simp; omega⟩
theorem Bd.mul {S : St} {n : Int} {x y : Lin} (h : Bd S n) : Bd (gMul S x y) (n + 2) := (h.hint.row).up (by omega)
theorem addP_len (p : Int) (x y : Lin) (n : Int) : (addP p x y n).length ≤ x.length + y.length := by
  unfold addP
  split
  · exact comb_len _ _ _ _
  · simp

theorem Bld.lt {w : World} {base b : Nat} {S : St} {A : Nat → Prop} (h : Bld w base b S A) : base ≤ w.heap.size := by
  obtain ⟨vr, R, vh, H, h⟩ := h
  exact h.lt

end Go.Proofs.Ytlgjnidphldiiaa
