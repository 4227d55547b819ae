/- Gadgets: IsZero, Equal, And, Or of the program. -/
import Derived.Test.YtlgjnidphldiiaaQGadEH
namespace Go.Proofs.Ytlgjnidphldiiaa
open Go.RowKit

end Go.Proofs.Ytlgjnidphldiiaa

/- Gadgets: slices that are filled element by element, beside a builder. -/
namespace Go.Proofs.Ytlgjnidphldiiaa
open Go.RowKit

/-- A slice of linear combinations. -/
def lcL : Lay Lc := ⟨fun s => [lcV s], 1, fun _ => rfl, by decide, fun x u hu => by
  rw [List.mem_singleton] at hu; subst hu; rfl⟩
theorem Try.infoLc : (Try.prog.info? 44).map (fun i => (i.zero, i.size, i.bytes)) = some (some (.slice none 0 0), 1, 24) := by kernel_rfl

theorem flat1 (xs : List Lc) : xs.flatMap lcL.f = xs.map lcV := by
  induction xs with
  | nil => rfl
  | cons x xs ih => rw [List.flatMap_cons, ih]; rfl
theorem OwnG.made {α : Type} {L : Lay α} {w : World} {base cap : Nat} {E : TypeId} {cs : Array Value} (d : α) (hcs : cs.toList = L.f d) (hb : base ≤ w.heap.size) (hm : cap ≤ maxLen) :
    OwnG L (w.alloc (.cells (madeCells cs (cap * L.m)) E)) base E (.slice (some ⟨w.heap.size, 0, none⟩) cap cap) (List.replicate cap d) := by
  have hsz : cs.size = L.m := by rw [← Array.length_toList, hcs, L.len]
  have h := OwnG.of_blk (L := L) (xs := List.replicate cap d) (cap := cap) hb (Blk.new w (madeCells cs (cap * L.m)) E) (by simp) hm (by simp [madeCells]) (by
    rw [List.length_replicate, List.take_of_length_le (by simp [madeCells])]
    refine List.ext_getElem? fun k => ?_
    by_cases hk : k < cap * L.m
    · have hj : k % L.m < L.m := Nat.mod_lt _ L.pos
      have hi : k / L.m < cap := Nat.div_lt_of_lt_mul (by rw [Nat.mul_comm]; exact hk)
      have e : k = k / L.m * L.m + k % L.m := by rw [Nat.mul_comm]; exact (Nat.div_add_mod k L.m).symm
      have h2 := L.flat_get (List.replicate cap d) d (i := k / L.m) (j := k % L.m) (by simpa using hi) hj
      rw [← e] at h2
      rw [h2, List.getD_eq_getElem?_getD, List.getElem?_replicate, if_pos hi, Option.getD_some, ← hcs]
      unfold madeCells
      rw [Array.getElem?_toList, Array.getElem?_map, Array.getElem?_range, if_pos hk, Array.getElem?_toList, Option.map_some, hsz]
      have hl : k % L.m < cs.size := by rw [hsz]; exact hj
      rw [Array.getElem?_eq_getElem hl]
      simp [hl]
    · rw [List.getElem?_eq_none (by simp [madeCells]; omega), List.getElem?_eq_none (by rw [L.flat_len, List.length_replicate]; omega)])
  rw [List.length_replicate] at h
  exact h

section
variable {w : World} {base g n cap : Nat} {E : TypeId}
theorem OwnG.blkE {α : Type} {L : Lay α} {xs : List α} (h : OwnG L w base E (.slice (some ⟨g, 0, none⟩) n cap) xs) : base ≤ g ∧ ∃ cs, Blk w g cs E := by
  rcases h.form with ⟨h0, _⟩ | ⟨g', cap', cur, h0, h1, h2, _⟩
  · cases h0
  · cases h0; exact ⟨h1, cur, h2⟩
theorem OwnG.slE {α : Type} {L : Lay α} {ad : Option Addr} {xs : List α} (h : OwnG L w base E (.slice ad n cap) xs) : SlG L w ad xs := by
  obtain ⟨a, c, e, hs, _⟩ := h.sl
  cases e
  exact hs
/-- The cells of an element. -/
theorem OwnG.cellE {α : Type} {L : Lay α} {xs : List α} (d : α) (h : OwnG L w base E (.slice (some ⟨g, 0, none⟩) n cap) xs) {i j : Nat} {u : Value} (hi : i < xs.length) (hj : j < L.m) (hu : (L.f (xs.getD i d))[j]? = some u) : w.cell? ⟨g, i * L.m + j, none⟩ = some u := by
  obtain ⟨b, off, e, _, hc⟩ := h.slE (by omega)
  cases e
  have := hc (i * L.m + j) u (by rw [L.flat_get xs d hi hj]; exact hu)
  rwa [Nat.zero_add] at this
end

theorem Kept.ownG {α : Type} {L : Lay α} {w w' : World} {base b0 : Nat} {E : TypeId} {v : Value} {xs : List α} (k : Kept base w w') (h : OwnG L w b0 E v xs) (h1 : E ≠ 106) (h2 : E ≠ 108) (h3 : E ≠ 104) : OwnG L w' b0 E v xs := by
  rcases h.form with ⟨rfl, rfl⟩ | ⟨g, cap, cur, rfl, g1, g2, g3, g4, g5, g6⟩
  · exact OwnG.nil _ _ _ _
  · exact OwnG.of_blk g1 (k.typ g cur E g2 h1 h2 h3) g3 g4 g5 g6
/-- A cell of a block that was not there at first. -/
theorem Kept.setNew {base : Nat} {w wr : World} (k : Kept base w wr) {g j : Nat} (hg : w.heap.size ≤ g) (hb : base ≤ w.heap.size) (u : Value) : Kept base w (wr.setCell ⟨g, j, none⟩ u) :=
  ⟨k.below.setCell (by show base ≤ g; omega) _, fun b cs T gb h1 h2 h3 => (k.typ b cs T gb h1 h2 h3).other (fun e => by subst e; have := gb.lt; omega) _ _⟩
theorem Bld.other {w : World} {base b g : Nat} {S : St} {cs : Array Value} {E : TypeId} {A : Nat → Prop} (h : Bld w base b S A) (gb : Blk w g cs E) (h1 : E ≠ 106) (h2 : E ≠ 108) (h3 : E ≠ 104) (j : Nat) (u : Value) (hl : ∀ s, LinT w s → Av A s → LinT (w.setCell ⟨g, j, none⟩ u) s) : Bld (w.setCell ⟨g, j, none⟩ u) base b S A := by
  obtain ⟨vr, R, vh, H, h⟩ := h
  exact ⟨vr, R, vh, H, h.blk.other (fun e => by subst e; exact h3 (blk_type gb h.blk)) _ _, h.lo, h.rows.other (h.rows.neq gb (fun e => h1 e.symm)) _, h.hints.other (h.hints.neq gb (fun e => h2 e.symm)) _,
    fun r hr => ⟨hl _ (h.rok r hr).1 (h.rav r hr).1, hl _ (h.rok r hr).2.1 (h.rav r hr).2.1, hl _ (h.rok r hr).2.2 (h.rav r hr).2.2⟩, fun r hr => ⟨hl _ (h.hok r hr).1 (h.hav r hr).1, hl _ (h.hok r hr).2.1 (h.hav r hr).2, (h.hok r hr).2.2⟩, h.rv, h.hv, h.rav, h.hav⟩
theorem LinT.setType {w : World} {s : Lc} {g j : Nat} {cs : Array Value} {E : TypeId} {u : Value} (h : LinT w s) (gb : Blk w g cs E) (hE : E ≠ 100) : LinT (w.setCell ⟨g, j, none⟩ u) s := by
  by_cases e : s.l = []
  · exact ⟨lc_nil h.ok e _, fun h0 => absurd e h0⟩
  · obtain ⟨b, off, cs', e2, g2⟩ := h.blk e
    have hne : g ≠ b := fun e => by subst e; exact hE (blk_type gb g2)
    refine ⟨⟨fun h0 => ?_, h.ok.wl, h.ok.le, h.ok.mx⟩, fun _ => ⟨b, off, cs', e2, g2.other hne _ _⟩⟩
    obtain ⟨b', off', e3, hl, hc⟩ := h.ok.sl h0
    rw [e2] at e3
    cases e3
    exact ⟨b, off, e2, by simpa using hl, fun i hi => ⟨by rw [World.cell?_setCell_far _ _ _ _ hne]; exact (hc i hi).1, by rw [World.cell?_setCell_far _ _ _ _ hne]; exact (hc i hi).2⟩⟩
end Go.Proofs.Ytlgjnidphldiiaa

/- Gadgets: Bits of the program. -/
namespace Go.Proofs.Ytlgjnidphldiiaa
open Go.RowKit

/-- The bits, on values. -/
def bitsS (S : St) (x : Lin) : Nat → St
  | 0 => S
  | k + 1 => gBool (gHint (bitsS S x k) 3 x [] k) (nv (bitsS S x k))
def bitT (S : St) (i : Nat) : Int × Int := (S.vars + i, fred S.p ((2 : Int) ^ i))
def bitsSum (S : St) (n : Nat) : Lin := (List.range n).map (bitT S)
def bitsL (S : St) (n : Nat) : List Lin := (List.range n).map fun (i : Nat) => [(S.vars + (i : Int), 1)]
def gBits (S : St) (x : Lin) (n : Nat) : St := gAssert (bitsS S x n) (bitsSum S n) x
theorem bitsS_vars (S : St) (x : Lin) : ∀ k : Nat, (bitsS S x k).vars = S.vars + k
  | 0 => by simp [bitsS]
  | k + 1 => by
    show (bitsS S x k).vars + 1 = _
    rw [bitsS_vars S x k]; omega
theorem bitsS_p (S : St) (x : Lin) : ∀ k : Nat, (bitsS S x k).p = S.p
  | 0 => rfl
  | k + 1 => bitsS_p S x k
theorem bitsS_bd {S : St} {n : Int} (h : Bd S n) (x : Lin) : ∀ k : Nat, Bd (bitsS S x k) (n + 2 * k)
  | 0 => h.up (by omega)
  | k + 1 => ((bitsS_bd h x k).hint.row).up (by omega)
theorem bitsSum_len (S : St) (n : Nat) : (bitsSum S n).length = n := by simp [bitsSum]
/-- One term of one variable stays where a pair of zero cells is overwritten. -/
theorem LinT.skip {w : World} {s : Lc} {v : Int} {g k : Nat} {u u' : Value} (h : LinT w s) (hl : s.l = [(v, 1)]) (c0 : w.cell? ⟨g, k * 2, none⟩ = some (.int .i64 0)) (c1 : w.cell? ⟨g, k * 2 + 1, none⟩ = some (.int .u64 0)) :
    LinT ((w.setCell ⟨g, k * 2, none⟩ u).setCell ⟨g, k * 2 + 1, none⟩ u') s := by
  obtain ⟨b, off, cs', e2, g2⟩ := h.blk (by rw [hl]; simp)
  obtain ⟨b', off', e3, hlt, hc⟩ := h.ok.sl (by rw [hl]; simp)
  rw [e2] at e3
  cases e3
  have h0 := hc 0 (by rw [hl]; simp)
  rw [hl] at h0
  simp only [Nat.zero_mul, Nat.add_zero, List.getD_cons_zero] at h0
  have hz : ∀ j, (j = 0 ∨ j = 1) → ((w.setCell ⟨g, k * 2, none⟩ u).setCell ⟨g, k * 2 + 1, none⟩ u').cell? ⟨b, off + j, none⟩ = w.cell? ⟨b, off + j, none⟩ := fun j hj => by
    by_cases hb : g = b
    · subst hb
      have n1 : off ≠ k * 2 := fun e => by
        have := h0.2
        rw [e, c1] at this
        cases this
      have n2 : off ≠ k * 2 + 1 := fun e => by
        have := h0.1
        rw [e, c1] at this
        cases this
      have n3 : off + 1 ≠ k * 2 := fun e => by
        have := h0.2
        rw [e, c0] at this
        cases this
      have n4 : off + j ≠ k * 2 ∧ off + j ≠ k * 2 + 1 := by rcases hj with rfl | rfl <;> omega
      have q1 : (⟨g, k * 2 + 1, none⟩ : Addr) ≠ ⟨g, off + j, none⟩ := fun e => by injection e with _ e _; omega
      have q2 : (⟨g, k * 2, none⟩ : Addr) ≠ ⟨g, off + j, none⟩ := fun e => by injection e with _ e _; omega
      rw [World.cell?_setCell_other _ _ _ _ q1, World.cell?_setCell_other _ _ _ _ q2]
    · rw [World.cell?_setCell_far _ _ _ _ hb, World.cell?_setCell_far _ _ _ _ hb]
  have hlen : s.l.length = 1 := by rw [hl]; rfl
  refine ⟨⟨fun _ => ⟨b, off, e2, by simpa using hlt, fun i hi => ?_⟩, h.ok.wl, h.ok.le, h.ok.mx⟩, fun _ => ?_⟩
  · obtain rfl : i = 0 := by omega
    rw [hl]
    simp only [Nat.zero_mul, Nat.add_zero, List.getD_cons_zero]
    have z0 := hz 0 (.inl rfl)
    have z1 := hz 1 (.inr rfl)
    rw [Nat.add_zero] at z0
    exact ⟨z0.trans h0.1, z1.trans h0.2⟩
  · by_cases hb : g = b
    · subst hb
      exact ⟨g, off, _, e2, (g2.set _ _).set _ _⟩
    · exact ⟨b, off, _, e2, (g2.other hb _ _).other hb _ _⟩

def q3 (S : St) (k : Nat) : Int := S.vars + (k : Int) + 1
end Go.Proofs.Ytlgjnidphldiiaa

/- Gadgets: Less, Or of the program. -/
namespace Go.Proofs.Ytlgjnidphldiiaa
open Go.RowKit

/-- What Less returns, on values. -/
def lessX (p : Int) (n : Nat) (x y : Lin) : Lin := subL p (addL p (keepT (0, fred p ((2 : Int) ^ n))) x) y
def gLess (S : St) (x y : Lin) (n : Nat) : St × Lin := (gBits S (lessX S.p n x y) (n + 1), gNot S.p [(S.vars + (n : Int), 1)])

end Go.Proofs.Ytlgjnidphldiiaa
