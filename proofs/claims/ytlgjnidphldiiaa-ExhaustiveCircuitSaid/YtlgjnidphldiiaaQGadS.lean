/- Gadgets: Select of the program; frames by types; the circuit of GadgetMeaning, on values. -/
import Derived.Test.YtlgjnidphldiiaaQGadIL
import Derived.Test.YtlgjnidphldiiaaQGm
namespace Go.Proofs.Ytlgjnidphldiiaa
open Go.RowKit

/-- w' is w behind calls that change blocks of the types of X alone. -/
structure KX (X : TypeId → Prop) (base : Nat) (w w' : World) : Prop where
  below : Below base w w'
  typ : ∀ (b : Nat) (cs : Array Value) (T : TypeId), Blk w b cs T → ¬ X T → Blk w' b cs T
theorem KX.refl (X : TypeId → Prop) (base : Nat) (w : World) : KX X base w w := ⟨Below.refl _ _, fun _ _ _ h _ => h⟩
theorem KX.trans {X : TypeId → Prop} {base : Nat} {w w' w2 : World} (h : KX X base w w') (k : KX X base w' w2) : KX X base w w2 :=
  ⟨h.below.trans k.below, fun b cs T g h1 => k.typ b cs T (h.typ b cs T g h1) h1⟩
theorem KX.of_below {X : TypeId → Prop} {base : Nat} {w w' : World} (h : Below w.heap.size w w') (hb : base ≤ w.heap.size) : KX X base w w' := ⟨h.mono hb, fun _ _ _ g _ => g.mono h⟩
theorem KX.lin {X : TypeId → Prop} {base : Nat} {w w' : World} {s : Lc} (k : KX X base w w') (hX : ¬ X 100) (h : LinT w s) : LinT w' s := by
  by_cases e : s.l = []
  · exact ⟨lc_nil h.ok e _, fun h0 => absurd e h0⟩
  · obtain ⟨b, off, cs, e2, g⟩ := h.blk e
    have g' := k.typ b cs _ g hX
    refine ⟨⟨fun h0 => ?_, h.ok.wl, h.ok.le, h.ok.mx⟩, fun _ => ⟨b, off, cs, e2, g'⟩⟩
    obtain ⟨b', off', e3, hl, hc⟩ := h.ok.sl h0
    rw [e2] at e3
    cases e3
    have hh : w'.heap[b]? = w.heap[b]? := by
      have h1 : w.heap[b]? = _ := g
      have h2 : w'.heap[b]? = _ := g'
      rw [h1, h2]
    exact ⟨b, off, e2, Nat.lt_of_lt_of_le hl k.below.size, fun i hi => ⟨by rw [World.cell?_of_block (w := w) hh]; exact (hc i hi).1, by rw [World.cell?_of_block (w := w) hh]; exact (hc i hi).2⟩⟩
theorem KX.own {α : Type} {X : TypeId → Prop} {L : Lay α} {w w' : World} {base b0 : Nat} {E : TypeId} {v : Value} {xs : List α} (k : KX X base w w') (hX : ¬ X E) (h : OwnG L w b0 E v xs) : OwnG L w' b0 E v xs := by
  rcases h.form with ⟨rfl, rfl⟩ | ⟨g, cap, cur, rfl, g1, g2, g3, g4, g5, g6⟩
  · exact OwnG.nil _ _ _ _
  · exact OwnG.of_blk g1 (k.typ g cur E g2 hX) g3 g4 g5 g6
theorem KX.bld {X : TypeId → Prop} {w w' : World} {base b0 b : Nat} {S : St} {A : Nat → Prop} (k : KX X b0 w w') (h1 : ¬ X 106) (h2 : ¬ X 108) (h3 : ¬ X 104) (h4 : ¬ X 100) (h : Bld w base b S A) : Bld w' base b S A := by
  obtain ⟨vr, R, vh, H, h⟩ := h
  exact ⟨vr, R, vh, H, k.typ _ _ _ h.blk h3, h.lo, k.own h1 h.rows, k.own h2 h.hints, fun r hr => ⟨k.lin h4 (h.rok r hr).1, k.lin h4 (h.rok r hr).2.1, k.lin h4 (h.rok r hr).2.2⟩, fun r hr => ⟨k.lin h4 (h.hok r hr).1, k.lin h4 (h.hok r hr).2.1, (h.hok r hr).2.2⟩, h.rv, h.hv, h.rav, h.hav⟩
theorem KX.grew {α : Type} {X : TypeId → Prop} {L : Lay α} {w w' : World} {base : Nat} {T : TypeId} {v v' : Value} {xs : List α} (ho : OwnG L w base T v xs) (hg : Grew w w' v v') (hX : X T) (hb : base ≤ w.heap.size) : KX X base w w' :=
  ⟨hg.belowG (Below.refl _ _) ho (Nat.le_refl _) hb, fun _ _ _ g' h1 => hg.blk g' (ho.neq g' (fun e => h1 (e ▸ hX)))⟩
theorem KX.set {X : TypeId → Prop} {w : World} {base b j : Nat} {cs : Array Value} {T : TypeId} {u : Value} (g : Blk w b cs T) (hX : X T) (hb : base ≤ b) : KX X base w (w.setCell ⟨b, j, none⟩ u) :=
  ⟨(Below.refl _ _).setCell hb _, fun _ _ _ g' h3 => g'.other (fun e => by subst e; exact h3 ((blk_type g' g) ▸ hX)) _ _⟩

theorem Bld.low {w : World} {base b0 b : Nat} {S : St} {A : Nat → Prop} (h : Bld w base b S A) (hb : b0 ≤ base) : Bld w b0 b S A := by
  obtain ⟨vr, R, vh, H, h⟩ := h
  exact ⟨vr, R, vh, H, h.blk, by have := h.lo; omega, h.rows.low hb, h.hints.low hb, h.rok, h.hok, h.rv, h.hv, h.rav, h.hav⟩
def IsL3 (n : Nat) (L1 L2 : Lin) (v : Value) (w : World) : Prop := ∃ (s1 s2 : Lc) (b : Nat), v = .slice (some ⟨b, 0, none⟩) 3 3 ∧ n ≤ b ∧ Blk w b #[.slice none 0 0, lcV s1, lcV s2] 44 ∧ Hid (s1.l = L1) ∧ LinT w s1 ∧ Hid (s2.l = L2) ∧ LinT w s2
theorem IsL3.mono {n : Nat} {L1 L2 : Lin} {v : Value} {w w' : World} (h : IsL3 n L1 L2 v w) (hb : Below w.heap.size w w') : IsL3 n L1 L2 v w' := by
  obtain ⟨s1, s2, b, h1, h2, h3, h4, h5, h6, h7⟩ := h
  exact ⟨s1, s2, b, h1, h2, h3.mono hb, h4, h5.mono hb, h6, h7.mono hb⟩
def IsL1 (n : Nat) (L : Lin) (v : Value) (w : World) : Prop := ∃ (s : Lc) (b : Nat), v = .slice (some ⟨b, 0, none⟩) 1 1 ∧ n ≤ b ∧ Blk w b #[lcV s] 44 ∧ Hid (s.l = L) ∧ LinT w s
theorem IsL1.mono {n : Nat} {L : Lin} {v : Value} {w w' : World} (h : IsL1 n L v w) (hb : Below w.heap.size w w') : IsL1 n L v w' := by
  obtain ⟨s, b, h1, h2, h3, h4, h5⟩ := h
  exact ⟨s, b, h1, h2, h3.mono hb, h4, h5.mono hb⟩
def IsBx (n : Nat) (cs : Array Value) (T : TypeId) (v : Value) (w : World) : Prop := ∃ b, v = .pointer (some ⟨b, 0, none⟩) ∧ n ≤ b ∧ Blk w b cs T
theorem IsBx.mono {n : Nat} {cs : Array Value} {T : TypeId} {v : Value} {w w' : World} (h : IsBx n cs T v w) (hb : Below w.heap.size w w') : IsBx n cs T v w' := by
  obtain ⟨b, h1, h2, h3⟩ := h
  exact ⟨b, h1, h2, h3.mono hb⟩
theorem Bd.isZero {S : St} {n : Int} {x : Lin} (h : Bd S n) : Bd (gIsZero S x).1 (n + 5) := (((h.hint.mul).row).row).up (by omega)
theorem Bd.bits {S : St} {n : Int} (h : Bd S n) (x : Lin) (k : Nat) : Bd (gBits S x k) (n + 2 * k + 1) := (bitsS_bd h x k).row
end Go.Proofs.Ytlgjnidphldiiaa
