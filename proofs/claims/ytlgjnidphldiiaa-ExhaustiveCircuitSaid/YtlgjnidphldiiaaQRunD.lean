/- Gadgets: a script as a parameter: a struct with a slice of structs of five bytes. -/
import Derived.Test.YtlgjnidphldiiaaQRunM
namespace Go.Proofs.Ytlgjnidphldiiaa
open Go.ChangeShapes Go.WideShapes Go.ChangeAt Go.RowKit

def isB (n : Int) : Prop := 0 ≤ n ∧ n < 256
def Op5.Wf (o : Op5) : Prop := isB o.k ∧ isB o.x ∧ isB o.y ∧ isB o.z ∧ isB o.n
/-- A slice of gadgets of a script. -/
structure Ops5 (w : World) (a : Option Addr) (cap : Nat) (ops : List Op5) : Prop where
  s : 0 < ops.length → ∃ b off, a = some ⟨b, off, none⟩ ∧ b < w.heap.size ∧ ∀ i, i < ops.length → w.cell? ⟨b, off + i * 5, none⟩ = some (.int .u8 (ops.getD i default).k) ∧ w.cell? ⟨b, off + i * 5 + 1, none⟩ = some (.int .u8 (ops.getD i default).x) ∧
    w.cell? ⟨b, off + i * 5 + 2, none⟩ = some (.int .u8 (ops.getD i default).y) ∧ w.cell? ⟨b, off + i * 5 + 3, none⟩ = some (.int .u8 (ops.getD i default).z) ∧ w.cell? ⟨b, off + i * 5 + 4, none⟩ = some (.int .u8 (ops.getD i default).n)
  wf : ∀ o ∈ ops, o.Wf
  le : ops.length ≤ cap
  mx : cap ≤ maxLen
theorem Ops5.mono {w w' : World} {a : Option Addr} {cap : Nat} {ops : List Op5} (h : Ops5 w a cap ops) (hb : Below w.heap.size w w') : Ops5 w' a cap ops :=
  ⟨fun h0 => by
    obtain ⟨b, off, e, hl, hc⟩ := h.s h0
    exact ⟨b, off, e, Nat.lt_of_lt_of_le hl hb.size, fun i hi => ⟨cell_below hb (hc i hi).1, cell_below hb (hc i hi).2.1, cell_below hb (hc i hi).2.2.1, cell_below hb (hc i hi).2.2.2.1, cell_below hb (hc i hi).2.2.2.2⟩⟩, h.wf, h.le, h.mx⟩
theorem Ops5.empty (w : World) : Ops5 w none 0 [] := ⟨fun h => absurd h (by simp), fun r hr => (by cases hr), Nat.le_refl _, by simp⟩
theorem isB_of {j : Int} (h : (Lit.int .u8 j).wf = true) : isB j := by
  unfold Lit.wf at h
  simp at h
  have e0 : IntKind.u8.min = 0 := rfl
  have e1 : IntKind.u8.max = 255 := rfl
  unfold isB
  omega
theorem list5 {α : Type} {l : List α} (h : l.length = 5) : ∃ a b c d e, l = [a, b, c, d, e] := by
  match l, h with
  | [a, b, c, d, e], _ => exact ⟨a, b, c, d, e, rfl⟩
theorem array4 {α : Type} {cs : Array α} (h : cs.size = 4) : ∃ c0 c1 c2 c3, cs = #[c0, c1, c2, c3] := by
  obtain ⟨l⟩ := cs
  match l, h with
  | [c0, c1, c2, c3], _ => exact ⟨c0, c1, c2, c3, rfl⟩

section
variable {H : Type} {enc : TypeId × Value → H} {w : World}

theorem open_ops5 {fuel : Nat} {cs : List Value} {x : DataW H × List MemPlace} (hf : DataW.trod enc Try.prog w 0 (fun _ => true) true fuel 64 cs = some x) :
    ∃ (ad : Option Addr) (cap : Nat) (ops : List Op5), cs = [.slice ad ops.length cap] ∧ Ops5 w ad cap ops := by
  have cU : Try.prog.cellsOf 5 = 1 := by kernel_rfl
  have cR : Try.prog.cellsOf 122 = 5 := by kernel_rfl
  rcases Deep.open_slice Try.underlying64 hf with ⟨h1, _⟩ | ⟨a', len, cap, m, n, D, Pl, h1, _, h3, h4, h5, _, h7⟩
  · exact ⟨none, 0, [], h1, Ops5.empty w⟩
  · simp only [if_true] at h5
    have each : ∀ i, i < len → ∃ q : Op5, (w.cell? (a'.add (i * 5)) = some (.int .u8 q.k) ∧ w.cell? (a'.add (i * 5 + 1)) = some (.int .u8 q.x) ∧ w.cell? (a'.add (i * 5 + 2)) = some (.int .u8 q.y) ∧ w.cell? (a'.add (i * 5 + 3)) = some (.int .u8 q.z) ∧ w.cell? (a'.add (i * 5 + 4)) = some (.int .u8 q.n)) ∧ q.Wf := fun i hil => by
      obtain ⟨cs', g1, g2⟩ := h7 i (by omega)
      rw [cR] at g1
      obtain ⟨_, hlen, hcell⟩ := World.cells?_some g1
      obtain ⟨xs, k, _, _, _, hxl, hff⟩ := DataW.trod_struct Try.underlying122 g2
      obtain ⟨y0, y1, y2, y3, y4, rfl⟩ := list5 hxl
      obtain ⟨v0, v1, v2, v3, v4, rfl⟩ := list5 hlen
      · clear h7 hxl hlen
        have g0 := hff 0 _ rfl
        have g1 := hff 1 _ rfl
        have g2 := hff 2 _ rfl
        have g3 := hff 3 _ rfl
        have g4 := hff 4 _ rfl
        simp [cU] at g0 g1 g2 g3 g4
        have e0 := hcell 0 (by omega)
        have e1 := hcell 1 (by omega)
        have e2 := hcell 2 (by omega)
        have e3 := hcell 3 (by omega)
        have e4 := hcell 4 (by omega)
        rw [Deep.add_add] at e0 e1 e2 e3 e4
        obtain ⟨k0, z0, _, o0⟩ := DataW.trod_int Try.underlying5 g0
        obtain ⟨k1, z1, _, o1⟩ := DataW.trod_int Try.underlying5 g1
        obtain ⟨k2, z2, _, o2⟩ := DataW.trod_int Try.underlying5 g2
        obtain ⟨k3, z3, _, o3⟩ := DataW.trod_int Try.underlying5 g3
        obtain ⟨k4, z4, _, o4⟩ := DataW.trod_int Try.underlying5 g4
        simp only [List.cons.injEq, and_true] at z0 z1 z2 z3 z4
        subst z0 z1 z2 z3 z4
        exact ⟨⟨k0, k1, k2, k3, k4⟩, ⟨by simpa using e0, by simpa using e1, by simpa using e2, by simpa using e3, by simpa using e4⟩, isB_of o0, isB_of o1, isB_of o2, isB_of o3, isB_of o4⟩
    obtain ⟨q, hq⟩ := Deep.choose_lt each
    have hlen : ((List.range len).map q).length = len := by simp
    have hget : ∀ i, i < len → ((List.range len).map q).getD i default = q i := fun i hil => by
      rw [List.getD_eq_getElem?_getD, List.getElem?_map, List.getElem?_range hil]; rfl
    refine ⟨some a', cap, (List.range len).map q, by rw [hlen]; exact h1, ?_, fun o ho => ?_, by rw [hlen]; exact h3, h4⟩
    · intro h0
      rw [hlen] at h0
      obtain ⟨b, off, rfl, hbl, hadd⟩ := spot_none (hq 0 h0).1.1
      refine ⟨b, off, rfl, hbl, fun i hil => ?_⟩
      rw [hlen] at hil
      rw [hget i hil]
      obtain ⟨⟨g0, g1, g2, g3, g4⟩, _⟩ := hq i hil
      rw [hadd] at g0 g1 g2 g3 g4
      exact ⟨g0, g1, g2, g3, g4⟩
    · obtain ⟨i, hil, rfl⟩ := List.mem_map.1 ho
      exact (hq i (List.mem_range.1 hil)).2

set_option maxRecDepth 100000 in
/-- A script, opened. -/
theorem open_script {r : Reach} {b0 : Nat} {v : Value} {d : DataW H} {ps : List MemPlace} (hd : DataW.Trod enc Try.prog w 0 (fun _ => true) true 66 v d ps) (hval : Value.okWide Try.prog w r b0 66 v) :
    ∃ (p pub sec : Int) (ad : Option Addr) (cap : Nat) (ops : List Op5), v = .agg #[.int .u64 p, .int .u8 pub, .int .u8 sec, .slice ad ops.length cap] ∧ ((Lit.int .u64 p).wf = true ∧ isB pub ∧ isB sec) ∧ Ops5 w ad cap ops := by
  have cC : Try.prog.cellsOf 66 = 4 := by kernel_rfl
  have cU : Try.prog.cellsOf 22 = 1 := by kernel_rfl
  have cB : Try.prog.cellsOf 5 = 1 := by kernel_rfl
  have cO : Try.prog.cellsOf 64 = 1 := by kernel_rfl
  have hok := okWide_struct (t := 66) (v := v) (w := w) (r := r) (base := b0) Try.underlying66
  have hok2 := hok hval
  clear hok hval
  obtain ⟨cs, hv, hsz⟩ := hok2
  subst hv
  rw [cC] at hsz
  obtain ⟨v0, v1, v2, v3, rfl⟩ := array4 hsz
  obtain ⟨fuel, hf⟩ := hd
  have hcells : (Value.agg #[v0, v1, v2, v3]).cells.toList = [v0, v1, v2, v3] := by simp [Value.cells]
  rw [hcells] at hf
  obtain ⟨xs, k, _, _, _, hxl, hff⟩ := DataW.trod_struct Try.underlying66 hf
  obtain ⟨y0, y1, y2, y3, rfl⟩ := list4 hxl
  clear hxl
  have g0 := hff 0 _ rfl
  have g1 := hff 1 _ rfl
  have g2 := hff 2 _ rfl
  have g3 := hff 3 _ rfl
  simp [cU, cB, cO] at g0 g1 g2 g3
  obtain ⟨p, z0, _, w0⟩ := DataW.trod_int Try.underlying22 g0
  obtain ⟨pub, z1, _, w1⟩ := DataW.trod_int Try.underlying5 g1
  obtain ⟨sec, z2, _, w2⟩ := DataW.trod_int Try.underlying5 g2
  obtain ⟨ad, cap, ops, z3, hO⟩ := open_ops5 g3
  simp only [List.cons.injEq, and_true] at z0 z1 z2 z3
  subst z0 z1 z2 z3
  exact ⟨p, pub, sec, ad, cap, ops, rfl, ⟨w0, isB_of w1, isB_of w2⟩, hO⟩
end
end Go.Proofs.Ytlgjnidphldiiaa
