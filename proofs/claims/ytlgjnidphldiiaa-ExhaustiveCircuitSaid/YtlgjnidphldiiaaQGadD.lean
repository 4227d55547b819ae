/- Gadgets: combine of the program: x + n y. -/
import Derived.Test.YtlgjnidphldiiaaQGadAC
import Derived.Test.YtlgjnidphldiiaaQCircV
import Derived.BigRegion
import Derived.Deep.DeepCutAuto
namespace Go.Proofs.Ytlgjnidphldiiaa
open Go.RowKit

def lenOf : Value → Nat
  | .slice _ n _ => n
  | _ => 0
/-- The loop of combine. -/
structure CoSt (w wr : World) (bF : Nat) (p : Int) (ax : Option Addr) (X : Lin) (cx : Nat) (ay : Option Addr) (Y : Lin) (cy : Nat) (v : Value) (S : Lin) (B : Nat) : Prop where
  b : Below w.heap.size w wr
  f : Blk wr bF #[.int .u64 p] 102
  x : LinS w ax X
  xw : LinW X
  xc : X.length ≤ cx
  xm : cx ≤ maxLen
  y : LinS w ay Y
  yw : LinW Y
  yc : Y.length ≤ cy
  ym : cy ≤ maxLen
  o : OwnG tmL wr w.heap.size 100 v S
  sw : LinW S
  len : S.length + X.length + Y.length ≤ B
theorem CoSt.mono {w wr w2 : World} {bF : Nat} {p : Int} {ax ay : Option Addr} {X Y S : Lin} {cx cy B : Nat} {v : Value} (h : CoSt w wr bF p ax X cx ay Y cy v S B) (hb : Below wr.heap.size wr w2) : CoSt w w2 bF p ax X cx ay Y cy v S B :=
  ⟨below2 h.b hb, h.f.mono hb, h.x, h.xw, h.xc, h.xm, h.y, h.yw, h.yc, h.ym, h.o.mono hb, h.sw, h.len⟩
theorem CoSt.step {w wr : World} {bF : Nat} {p : Int} {ax ay ax' ay' : Option Addr} {X Y S X' Y' : Lin} {cx cy cx' cy' B : Nat} {v : Value} (h : CoSt w wr bF p ax X cx ay Y cy v S B) (h1 : LinS w ax' X') (h2 : LinW X') (h3 : X'.length ≤ cx') (h4 : cx' ≤ maxLen)
    (k1 : LinS w ay' Y') (k2 : LinW Y') (k3 : Y'.length ≤ cy') (k4 : cy' ≤ maxLen) (hl : S.length + X'.length + Y'.length ≤ B) : CoSt w wr bF p ax' X' cx' ay' Y' cy' v S B :=
  ⟨h.b, h.f, h1, h2, h3, h4, k1, k2, k3, k4, h.o, h.sw, hl⟩
theorem CoSt.app {w wr w2 : World} {bF : Nat} {p : Int} {ax ay : Option Addr} {X Y S : Lin} {cx cy B : Nat} {v v' : Value} {t : Int × Int} (h : CoSt w wr bF p ax X cx ay Y cy v S B) (ho : OwnG tmL w2 w.heap.size 100 v' (S ++ [t])) (hg : Grew wr w2 v v') (hw : (Lit.int .i64 t.1).wf = true ∧ (Lit.int .u64 t.2).wf = true) (hl : S.length + X.length + Y.length + 1 ≤ B) : CoSt w w2 bF p ax X cx ay Y cy v' (S ++ [t]) B :=
  ⟨hg.belowG h.b h.o (Nat.le_refl _) h.b.size, hg.blk h.f (h.o.neq h.f (by decide)), h.x, h.xw, h.xc, h.xm, h.y, h.yw, h.yc, h.ym, ho, fun q hq => by
    rcases List.mem_append.1 hq with h1 | h1
    · exact h.sw q h1
    · rw [List.mem_singleton] at h1; subst h1; exact hw, by simp; omega⟩
theorem LinS.tail {w : World} {b o c : Nat} {t : Int × Int} {X : Lin} (h : LinS w (some ⟨b, o, none⟩) (t :: X)) (hc : X.length + 1 ≤ c) : LinS w (if c = 1 then some ⟨b, o, none⟩ else some ⟨b, o + 2, none⟩) X := fun h0 => by
  obtain ⟨b', o', e, hl, hh⟩ := h (by simp)
  cases e
  rw [if_neg (by omega)]
  refine ⟨b, o + 2, rfl, hl, fun i hi => ?_⟩
  have := hh (i + 1) (by simp; omega)
  simp only [List.getD_cons_succ] at this
  rw [show o + 2 + i * 2 = o + (i + 1) * 2 by omega]
  exact this
theorem LinW.tail {t : Int × Int} {X : Lin} (h : LinW (t :: X)) : LinW X := fun u hu => h u (List.mem_cons_of_mem _ hu)

end Go.Proofs.Ytlgjnidphldiiaa
