/- Circuits in memory: linear combinations, rows, hints. -/
import Derived.Test.YtlgjnidphldiiaaListX
import Derived.Deep.SlicePairs
namespace Go.Proofs.Ytlgjnidphldiiaa
open Go.ChangeShapes Go.WideShapes Go.ChangeAt Go.RowKit

/-- A linear combination: a slice of terms, each a variable and a coefficient. -/
def LinS (w : World) (a : Option Addr) (L : List (Int × Int)) : Prop :=
  0 < L.length → ∃ b off, a = some ⟨b, off, none⟩ ∧ b < w.heap.size ∧ ∀ i, i < L.length → w.cell? ⟨b, off + i * 2, none⟩ = some (.int .i64 (L.getD i (0, 0)).1) ∧ w.cell? ⟨b, off + i * 2 + 1, none⟩ = some (.int .u64 (L.getD i (0, 0)).2)
theorem LinS.mono {w w' : World} {a : Option Addr} {L : List (Int × Int)} (h : LinS w a L) (hb : Below w.heap.size w w') : LinS w' a L := fun h0 => by
  obtain ⟨b, off, e, hl, hc⟩ := h h0
  exact ⟨b, off, e, Nat.lt_of_lt_of_le hl hb.size, fun i hi => ⟨cell_below hb (hc i hi).1, cell_below hb (hc i hi).2⟩⟩
def LinW (L : List (Int × Int)) : Prop := ∀ t ∈ L, (Lit.int .i64 t.1).wf = true ∧ (Lit.int .u64 t.2).wf = true

def termOf : Value → Value → Int × Int
  | .int _ v, .int _ c => (v, c)
  | _, _ => (0, 0)

section
variable {H : Type} {enc : TypeId × Value → H} {P : Program} {w : World}

/-- A slice of terms, wherever it lies, opened. -/
theorem open_lin {t e : TypeId} {f0 f1 : Field} {fuel : Nat} {cs : List Value} {x : DataW H × List MemPlace} (ht : P.underlying t = some (.slice e)) (he : P.underlying e = some (.struct #[f0, f1]))
    (ce : P.cellsOf e = 2) (o0 : f0.offset = 0) (o1 : f1.offset = 1) (c0 : P.cellsOf f0.type = 1) (c1 : P.cellsOf f1.type = 1) (h0 : P.underlying f0.type = some (.int .i64)) (h1 : P.underlying f1.type = some (.int .u64))
    (hf : DataW.trod enc P w 0 (fun _ => true) true fuel t cs = some x) :
    ∃ (ad : Option Addr) (c : Nat) (L : List (Int × Int)), cs = [.slice ad L.length c] ∧ LinS w ad L ∧ LinW L ∧ L.length ≤ c ∧ c ≤ maxLen := by
  rcases Deep.open_slice_pairs ht he ce o0 o1 c0 c1 hf with ⟨h1, _⟩ | ⟨a', len', cap', m, n, V0, V1, D0, D1, P0, P1, hv, _, h3, h4, h5, _, h7⟩
  · exact ⟨none, 0, [], h1, fun h => absurd h (Nat.lt_irrefl 0), fun o ho => (by cases ho), Nat.le_refl _, by simp⟩
  · simp only [if_true] at h5
    have each : ∀ i, i < len' → ∃ v k, V0 i = .int .i64 v ∧ V1 i = .int .u64 k ∧ (Lit.int .i64 v).wf = true ∧ (Lit.int .u64 k).wf = true := fun i hi2 => by
      obtain ⟨_, _, g0, g1⟩ := h7 i (by omega)
      obtain ⟨v, e0, _, w0⟩ := DataW.trod_int h0 g0
      obtain ⟨k, e1, _, w1⟩ := DataW.trod_int h1 g1
      simp only [List.cons.injEq, and_true] at e0 e1
      exact ⟨v, k, e0, e1, w0, w1⟩
    have hlen : ((List.range len').map fun i => termOf (V0 i) (V1 i)).length = len' := by simp
    have hget : ∀ i, i < len' → ((List.range len').map fun i => termOf (V0 i) (V1 i)).getD i (0, 0) = termOf (V0 i) (V1 i) := fun i hi2 => by
      rw [List.getD_eq_getElem?_getD, List.getElem?_map, List.getElem?_range hi2]; rfl
    refine ⟨some a', cap', (List.range len').map fun i => termOf (V0 i) (V1 i), by rw [hlen]; exact hv, ?_, fun o ho => ?_, by rw [hlen]; exact h3, h4⟩
    · intro hp
      rw [hlen] at hp
      have hs : a'.spot = none := by
        have := (h7 0 (by omega)).1
        have e : a'.add (0 * 2) = a' := by simp [Addr.add]
        rw [e] at this
        unfold World.cell? at this
        split at this
        · cases hsp : a'.spot with
          | none => rfl
          | some z => rw [hsp] at this; simp at this
        · cases this
      obtain ⟨b, off, spot⟩ := a'
      simp only at hs
      subst hs
      have hadd : ∀ j, (⟨b, off + j, none⟩ : Addr) = (⟨b, off, none⟩ : Addr).add j := fun j => by
        unfold Addr.add
        split
        · rename_i h; subst h; rfl
        · rfl
      refine ⟨b, off, rfl, ?_, fun i hi2 => ?_⟩
      · have := cell_lt (h7 0 (by omega)).1
        rw [← hadd] at this
        exact this
      · rw [hlen] at hi2
        rw [hget i hi2]
        obtain ⟨v, k, e0, e1, _⟩ := each i hi2
        obtain ⟨g0, g1, _, _⟩ := h7 i (by omega)
        rw [e0, e1]
        rw [← hadd, e0] at g0
        rw [← hadd, e1] at g1
        exact ⟨g0, g1⟩
    · obtain ⟨i, hi2, rfl⟩ := List.mem_map.1 ho
      obtain ⟨v, k, e0, e1, w0, w1⟩ := each i (List.mem_range.1 hi2)
      rw [e0, e1]
      exact ⟨w0, w1⟩
end

/-- A slice of terms: its address, its capacity, its terms. -/
structure Lc where
  ad : Option Addr
  cap : Nat
  l : List (Int × Int)
instance : Inhabited Lc := ⟨⟨none, 0, []⟩⟩
structure LcOk (w : World) (s : Lc) : Prop where
  sl : LinS w s.ad s.l
  wl : LinW s.l
  le : s.l.length ≤ s.cap
  mx : s.cap ≤ maxLen
theorem LcOk.mono {w w' : World} {s : Lc} (h : LcOk w s) (hb : Below w.heap.size w w') : LcOk w' s := ⟨h.sl.mono hb, h.wl, h.le, h.mx⟩

/-- A row. -/
structure Rw where
  a : Lc
  b : Lc
  c : Lc
instance : Inhabited Rw := ⟨⟨default, default, default⟩⟩
/-- A hint. -/
structure Hn where
  k : Int
  a : Lc
  b : Lc
  bit : Int
instance : Inhabited Hn := ⟨⟨0, default, default, 0⟩⟩

/-- A slice of rows. -/
structure RowsP (w : World) (a : Option Addr) (cap : Nat) (R : List Rw) : Prop where
  s : 0 < R.length → ∃ b off, a = some ⟨b, off, none⟩ ∧ b < w.heap.size ∧ ∀ i, i < R.length → w.cell? ⟨b, off + i * 3, none⟩ = some (.slice (R.getD i default).a.ad (R.getD i default).a.l.length (R.getD i default).a.cap) ∧
    w.cell? ⟨b, off + i * 3 + 1, none⟩ = some (.slice (R.getD i default).b.ad (R.getD i default).b.l.length (R.getD i default).b.cap) ∧ w.cell? ⟨b, off + i * 3 + 2, none⟩ = some (.slice (R.getD i default).c.ad (R.getD i default).c.l.length (R.getD i default).c.cap)
  ok : ∀ r ∈ R, LcOk w r.a ∧ LcOk w r.b ∧ LcOk w r.c
  le : R.length ≤ cap
  mx : cap ≤ maxLen
  nil : a = none → cap = 0
theorem RowsP.mono {w w' : World} {a : Option Addr} {cap : Nat} {R : List Rw} (h : RowsP w a cap R) (hb : Below w.heap.size w w') : RowsP w' a cap R :=
  ⟨fun h0 => by
    obtain ⟨b, off, e, hl, hc⟩ := h.s h0
    exact ⟨b, off, e, Nat.lt_of_lt_of_le hl hb.size, fun i hi => ⟨cell_below hb (hc i hi).1, cell_below hb (hc i hi).2.1, cell_below hb (hc i hi).2.2⟩⟩,
  fun r hr => ⟨(h.ok r hr).1.mono hb, (h.ok r hr).2.1.mono hb, (h.ok r hr).2.2.mono hb⟩, h.le, h.mx, h.nil⟩
theorem RowsP.empty (w : World) : RowsP w none 0 [] := ⟨fun h => absurd h (by simp), fun r hr => (by cases hr), Nat.le_refl _, by simp, fun _ => rfl⟩

/-- A slice of hints. -/
structure HintsP (w : World) (a : Option Addr) (cap : Nat) (R : List Hn) : Prop where
  s : 0 < R.length → ∃ b off, a = some ⟨b, off, none⟩ ∧ b < w.heap.size ∧ ∀ i, i < R.length → w.cell? ⟨b, off + i * 4, none⟩ = some (.int .i64 (R.getD i default).k) ∧ w.cell? ⟨b, off + i * 4 + 1, none⟩ = some (.slice (R.getD i default).a.ad (R.getD i default).a.l.length (R.getD i default).a.cap) ∧
    w.cell? ⟨b, off + i * 4 + 2, none⟩ = some (.slice (R.getD i default).b.ad (R.getD i default).b.l.length (R.getD i default).b.cap) ∧ w.cell? ⟨b, off + i * 4 + 3, none⟩ = some (.int .i64 (R.getD i default).bit)
  ok : ∀ r ∈ R, LcOk w r.a ∧ LcOk w r.b ∧ (Lit.int .i64 r.k).wf = true ∧ (Lit.int .i64 r.bit).wf = true
  le : R.length ≤ cap
  mx : cap ≤ maxLen
  nil : a = none → cap = 0
theorem HintsP.mono {w w' : World} {a : Option Addr} {cap : Nat} {R : List Hn} (h : HintsP w a cap R) (hb : Below w.heap.size w w') : HintsP w' a cap R :=
  ⟨fun h0 => by
    obtain ⟨b, off, e, hl, hc⟩ := h.s h0
    exact ⟨b, off, e, Nat.lt_of_lt_of_le hl hb.size, fun i hi => ⟨cell_below hb (hc i hi).1, cell_below hb (hc i hi).2.1, cell_below hb (hc i hi).2.2.1, cell_below hb (hc i hi).2.2.2⟩⟩,
  fun r hr => ⟨(h.ok r hr).1.mono hb, (h.ok r hr).2.1.mono hb, (h.ok r hr).2.2⟩, h.le, h.mx, h.nil⟩
theorem HintsP.empty (w : World) : HintsP w none 0 [] := ⟨fun h => absurd h (by simp), fun r hr => (by cases hr), Nat.le_refl _, by simp, fun _ => rfl⟩
theorem HintsP.cut {w : World} {a : Option Addr} {cap : Nat} {R : List Hn} (h : HintsP w a cap R) {k : Nat} (hk : k ≤ R.length) : HintsP w a cap (R.take k) :=
  have hl : (R.take k).length = k := by rw [List.length_take]; omega
  ⟨fun h0 => by
    obtain ⟨b, off, e, hl2, hc⟩ := h.s (by omega)
    refine ⟨b, off, e, hl2, fun i hi => ?_⟩
    have e : (R.take k).getD i default = R.getD i default := by rw [List.getD_eq_getElem?_getD, List.getD_eq_getElem?_getD, List.getElem?_take_of_lt (by omega)]
    rw [e]
    exact hc i (by omega), fun r hr => h.ok r (List.mem_of_mem_take hr), by have := h.le; omega, h.mx, h.nil⟩

theorem getD_mem' {α : Type} {xs : List α} {i : Nat} (h : i < xs.length) (d : α) : xs.getD i d ∈ xs := by
  rw [List.getD_eq_getElem?_getD, List.getElem?_eq_getElem h]
  exact List.getElem_mem h

theorem list2 {α : Type} {l : List α} (h : l.length = 2) : ∃ a b, l = [a, b] := by
  match l, h with
  | [a, b], _ => exact ⟨a, b, rfl⟩
theorem list3 {α : Type} {l : List α} (h : l.length = 3) : ∃ a b c, l = [a, b, c] := by
  match l, h with
  | [a, b, c], _ => exact ⟨a, b, c, rfl⟩
theorem list4 {α : Type} {l : List α} (h : l.length = 4) : ∃ a b c d, l = [a, b, c, d] := by
  match l, h with
  | [a, b, c, d], _ => exact ⟨a, b, c, d, rfl⟩

section
variable {H : Type} {enc : TypeId × Value → H} {w : World}

theorem open_lc {fuel : Nat} {cs : List Value} {x : DataW H × List MemPlace} (hf : DataW.trod enc Try.prog w 0 (fun _ => true) true fuel 44 cs = some x) :
    ∃ s : Lc, cs = [.slice s.ad s.l.length s.cap] ∧ LcOk w s := by
  obtain ⟨ad, c, L, h1, h2, h3, h4, h5⟩ := open_lin Try.underlying44 Try.underlying100 (by kernel_rfl) rfl rfl (by kernel_rfl) (by kernel_rfl) Try.underlying3 Try.underlying22 hf
  exact ⟨⟨ad, c, L⟩, h1, h2, h3, h4, h5⟩

theorem spot_none {a' : Addr} {v : Value} {k : Nat} (this : w.cell? (a'.add (0 * k)) = some v) : ∃ b off, a' = ⟨b, off, none⟩ ∧ b < w.heap.size ∧ ∀ j, (⟨b, off, none⟩ : Addr).add j = ⟨b, off + j, none⟩ := by
  have e : a'.add (0 * k) = a' := by simp [Addr.add]
  rw [e] at this
  have hl := cell_lt this
  unfold World.cell? at this
  split at this
  · cases hsp : a'.spot with
    | none =>
      obtain ⟨b, off, spot⟩ := a'
      simp only at hsp
      subst hsp
      refine ⟨b, off, rfl, hl, fun j => ?_⟩
      unfold Addr.add
      split
      · rename_i h; subst h; rfl
      · rfl
    | some z => rw [hsp] at this; simp at this
  · cases this

theorem open_rows {fuel : Nat} {cs : List Value} {x : DataW H × List MemPlace} (hf : DataW.trod enc Try.prog w 0 (fun _ => true) true fuel 32 cs = some x) :
    ∃ (ad : Option Addr) (cap : Nat) (R : List Rw), cs = [.slice ad R.length cap] ∧ RowsP w ad cap R := by
  have cL : Try.prog.cellsOf 44 = 1 := by kernel_rfl
  have cR : Try.prog.cellsOf 106 = 3 := by kernel_rfl
  rcases Deep.open_slice Try.underlying32 hf with ⟨h1, _⟩ | ⟨a', len, cap, m, n, D, Pl, h1, _, h3, h4, h5, _, h7⟩
  · exact ⟨none, 0, [], h1, RowsP.empty w⟩
  · simp only [if_true] at h5
    have each : ∀ i, i < len → ∃ q : Rw, (w.cell? (a'.add (i * 3)) = some (.slice q.a.ad q.a.l.length q.a.cap) ∧ w.cell? (a'.add (i * 3 + 1)) = some (.slice q.b.ad q.b.l.length q.b.cap) ∧ w.cell? (a'.add (i * 3 + 2)) = some (.slice q.c.ad q.c.l.length q.c.cap)) ∧ LcOk w q.a ∧ LcOk w q.b ∧ LcOk w q.c := fun i hil => by
      obtain ⟨cs', g1, g2⟩ := h7 i (by omega)
      rw [cR] at g1
      obtain ⟨_, hlen, hcell⟩ := World.cells?_some g1
      obtain ⟨xs, k, _, _, _, hxl, hff⟩ := DataW.trod_struct Try.underlying106 g2
      obtain ⟨y0, y1, y2, rfl⟩ := list3 hxl
      obtain ⟨v0, v1, v2, rfl⟩ := list3 hlen
      · clear h7 hxl hlen
        have g0 := hff 0 _ rfl
        have g1 := hff 1 _ rfl
        have g2 := hff 2 _ rfl
        simp [cL] at g0 g1 g2
        have e0 := hcell 0 (by omega)
        have e1 := hcell 1 (by omega)
        have e2 := hcell 2 (by omega)
        rw [Deep.add_add] at e0 e1 e2
        obtain ⟨s0, z0, o0⟩ := open_lc g0
        obtain ⟨s1, z1, o1⟩ := open_lc g1
        obtain ⟨s2, z2, o2⟩ := open_lc g2
        simp only [List.cons.injEq, and_true] at z0 z1 z2
        subst z0 z1 z2
        exact ⟨⟨s0, s1, s2⟩, ⟨by simpa using e0, by simpa using e1, by simpa using e2⟩, o0, o1, o2⟩
    obtain ⟨q, hq⟩ := Deep.choose_lt each
    have hlen : ((List.range len).map q).length = len := by simp
    have hget : ∀ i, i < len → ((List.range len).map q).getD i default = q i := fun i hil => by
      rw [List.getD_eq_getElem?_getD, List.getElem?_map, List.getElem?_range hil]; rfl
    refine ⟨some a', cap, (List.range len).map q, by rw [hlen]; exact h1, ?_, fun o ho => ?_, by rw [hlen]; exact h3, h4, fun h => by cases h⟩
    · intro h0
      rw [hlen] at h0
      obtain ⟨b, off, rfl, hbl, hadd⟩ := spot_none (hq 0 h0).1.1
      refine ⟨b, off, rfl, hbl, fun i hil => ?_⟩
      rw [hlen] at hil
      rw [hget i hil]
      obtain ⟨⟨g0, g1, g2⟩, _⟩ := hq i hil
      rw [hadd] at g0 g1 g2
      exact ⟨g0, g1, g2⟩
    · obtain ⟨i, hil, rfl⟩ := List.mem_map.1 ho
      exact (hq i (List.mem_range.1 hil)).2

theorem open_hints {fuel : Nat} {cs : List Value} {x : DataW H × List MemPlace} (hf : DataW.trod enc Try.prog w 0 (fun _ => true) true fuel 35 cs = some x) :
    ∃ (ad : Option Addr) (cap : Nat) (R : List Hn), cs = [.slice ad R.length cap] ∧ HintsP w ad cap R := by
  have cL : Try.prog.cellsOf 44 = 1 := by kernel_rfl
  have cI : Try.prog.cellsOf 3 = 1 := by kernel_rfl
  have cR : Try.prog.cellsOf 108 = 4 := by kernel_rfl
  rcases Deep.open_slice Try.underlying35 hf with ⟨h1, _⟩ | ⟨a', len, cap, m, n, D, Pl, h1, _, h3, h4, h5, _, h7⟩
  · exact ⟨none, 0, [], h1, HintsP.empty w⟩
  · simp only [if_true] at h5
    have each : ∀ i, i < len → ∃ q : Hn, (w.cell? (a'.add (i * 4)) = some (.int .i64 q.k) ∧ w.cell? (a'.add (i * 4 + 1)) = some (.slice q.a.ad q.a.l.length q.a.cap) ∧ w.cell? (a'.add (i * 4 + 2)) = some (.slice q.b.ad q.b.l.length q.b.cap) ∧ w.cell? (a'.add (i * 4 + 3)) = some (.int .i64 q.bit)) ∧
        LcOk w q.a ∧ LcOk w q.b ∧ (Lit.int .i64 q.k).wf = true ∧ (Lit.int .i64 q.bit).wf = true := fun i hil => by
      obtain ⟨cs', g1, g2⟩ := h7 i (by omega)
      rw [cR] at g1
      obtain ⟨_, hlen, hcell⟩ := World.cells?_some g1
      obtain ⟨xs, k, _, _, _, hxl, hff⟩ := DataW.trod_struct Try.underlying108 g2
      obtain ⟨y0, y1, y2, y3, rfl⟩ := list4 hxl
      obtain ⟨v0, v1, v2, v3, rfl⟩ := list4 hlen
      · clear h7 hxl hlen
        have g0 := hff 0 _ rfl
        have g1 := hff 1 _ rfl
        have g2 := hff 2 _ rfl
        have g3 := hff 3 _ rfl
        simp [cL, cI] at g0 g1 g2 g3
        have e0 := hcell 0 (by omega)
        have e1 := hcell 1 (by omega)
        have e2 := hcell 2 (by omega)
        have e3 := hcell 3 (by omega)
        rw [Deep.add_add] at e0 e1 e2 e3
        obtain ⟨k0, z0, _, o0⟩ := DataW.trod_int Try.underlying3 g0
        obtain ⟨s1, z1, o1⟩ := open_lc g1
        obtain ⟨s2, z2, o2⟩ := open_lc g2
        obtain ⟨k3, z3, _, o3⟩ := DataW.trod_int Try.underlying3 g3
        simp only [List.cons.injEq, and_true] at z0 z1 z2 z3
        subst z0 z1 z2 z3
        exact ⟨⟨k0, s1, s2, k3⟩, ⟨by simpa using e0, by simpa using e1, by simpa using e2, by simpa using e3⟩, o1, o2, o0, o3⟩
    obtain ⟨q, hq⟩ := Deep.choose_lt each
    have hlen : ((List.range len).map q).length = len := by simp
    have hget : ∀ i, i < len → ((List.range len).map q).getD i default = q i := fun i hil => by
      rw [List.getD_eq_getElem?_getD, List.getElem?_map, List.getElem?_range hil]; rfl
    refine ⟨some a', cap, (List.range len).map q, by rw [hlen]; exact h1, ?_, fun o ho => ?_, by rw [hlen]; exact h3, h4, fun h => by cases h⟩
    · intro h0
      rw [hlen] at h0
      obtain ⟨b, off, rfl, hbl, hadd⟩ := spot_none (hq 0 h0).1.1
      refine ⟨b, off, rfl, hbl, fun i hil => ?_⟩
      rw [hlen] at hil
      rw [hget i hil]
      obtain ⟨⟨g0, g1, g2, g3⟩, _⟩ := hq i hil
      rw [hadd] at g0 g1 g2 g3
      exact ⟨g0, g1, g2, g3⟩
    · obtain ⟨i, hil, rfl⟩ := List.mem_map.1 ho
      exact (hq i (List.mem_range.1 hil)).2

theorem array6 {α : Type} {cs : Array α} (h : cs.size = 6) : ∃ c0 c1 c2 c3 c4 c5, cs = #[c0, c1, c2, c3, c4, c5] := by
  obtain ⟨l⟩ := cs
  match l, h with
  | [c0, c1, c2, c3, c4, c5], _ => exact ⟨c0, c1, c2, c3, c4, c5, rfl⟩

set_option maxRecDepth 100000 in
/-- A circuit, wherever it lies, opened. -/
theorem open_circ {r : Reach} {b0 : Nat} {v : Value} {d : DataW H} {ps : List MemPlace} (hd : DataW.Trod enc Try.prog w 0 (fun _ => true) true 37 v d ps) (hval : Value.okWide Try.prog w r b0 37 v) :
    ∃ (p pub vars : Int) (ra : Option Addr) (rc : Nat) (R : List Rw) (sec : Int) (ha : Option Addr) (hc : Nat) (H : List Hn), v = .agg #[.int .u64 p, .int .i64 pub, .int .i64 vars, .slice ra R.length rc, .int .i64 sec, .slice ha H.length hc] ∧
      ((Lit.int .u64 p).wf = true ∧ (Lit.int .i64 pub).wf = true ∧ (Lit.int .i64 vars).wf = true ∧ (Lit.int .i64 sec).wf = true) ∧ RowsP w ra rc R ∧ HintsP w ha hc H := by
  have cT : Try.prog.cellsOf 34 = 4 := by kernel_rfl
  have cC : Try.prog.cellsOf 37 = 6 := by kernel_rfl
  have cU : Try.prog.cellsOf 22 = 1 := by kernel_rfl
  have cI : Try.prog.cellsOf 3 = 1 := by kernel_rfl
  have cR : Try.prog.cellsOf 32 = 1 := by kernel_rfl
  have cH : Try.prog.cellsOf 35 = 1 := by kernel_rfl
  have hok := okWide_struct (t := 37) (v := v) (w := w) (r := r) (base := b0) Try.underlying37
  have hok2 := hok hval
  clear hok hval
  obtain ⟨cs, hv, hsz⟩ := hok2
  subst hv
  rw [cC] at hsz
  obtain ⟨v0, v1, v2, v3, v4, v5, rfl⟩ := array6 hsz
  obtain ⟨fuel, hf⟩ := hd
  have hcells : (Value.agg #[v0, v1, v2, v3, v4, v5]).cells.toList = [v0, v1, v2, v3, v4, v5] := by simp [Value.cells]
  rw [hcells] at hf
  obtain ⟨xs, k, _, _, _, hxl, hff⟩ := DataW.trod_struct Try.underlying37 hf
  obtain ⟨y0, y1, y2, rfl⟩ := list3 hxl
  · clear hxl
    have g0 := hff 0 _ rfl
    have g1 := hff 1 _ rfl
    have g2 := hff 2 _ rfl
    simp [cT, cI, cH] at g0 g1 g2
    obtain ⟨ts, k, _, _, _, htl, htt⟩ := DataW.trod_struct Try.underlying34 g0
    obtain ⟨u0, u1, u2, u3, rfl⟩ := list4 htl
    · clear htl
      have j0 := htt 0 _ rfl
      have j1 := htt 1 _ rfl
      have j2 := htt 2 _ rfl
      have j3 := htt 3 _ rfl
      simp [cU, cI, cR] at j0 j1 j2 j3
      obtain ⟨p, z0, _, w0⟩ := DataW.trod_int Try.underlying22 j0
      obtain ⟨pub, z1, _, w1⟩ := DataW.trod_int Try.underlying3 j1
      obtain ⟨vars, z2, _, w2⟩ := DataW.trod_int Try.underlying3 j2
      obtain ⟨ra, rc, R, z3, hR⟩ := open_rows j3
      obtain ⟨sec, z4, _, w4⟩ := DataW.trod_int Try.underlying3 g1
      obtain ⟨ha, hc, Hs, z5, hH⟩ := open_hints g2
      simp only [List.cons.injEq, and_true] at z0 z1 z2 z3 z4 z5
      subst z0 z1 z2 z3 z4 z5
      exact ⟨p, pub, vars, ra, rc, R, sec, ha, hc, Hs, rfl, ⟨w0, w1, w2, w4⟩, hR, hH⟩
end

end Go.Proofs.Ytlgjnidphldiiaa
