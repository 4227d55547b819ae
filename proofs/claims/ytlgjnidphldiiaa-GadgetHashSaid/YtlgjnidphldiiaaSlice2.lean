/- Slices of integers as a law's parameters. -/
import Derived.Test.YtlgjnidphldiiaaFrame
namespace Go.Proofs.Ytlgjnidphldiiaa
open Go.ChangeShapes Go.WideShapes Go.ChangeAt Go.RowKit

/-- A parameter that is a slice of integers. -/
structure SlP (w : World) (k : IntKind) (a : Option Addr) (c : Nat) (xs : List Int) : Prop where
  sl : Sl w k a xs
  wf : ∀ x ∈ xs, (Lit.int k x).wf = true
  le : xs.length ≤ c
  max : c ≤ maxLen
  nil : a = none → c = 0

theorem SlP.mono {w w' : World} {k : IntKind} {a : Option Addr} {c : Nat} {xs : List Int} (h : SlP w k a c xs) (hb : Below w.heap.size w w') : SlP w' k a c xs := ⟨h.sl.mono hb, h.wf, h.le, h.max, h.nil⟩

section
variable {H : Type} {enc : TypeId × Value → H} {P : Program} {w : World}

theorem open_slice {r : Reach} {b0 : Nat} {t e : TypeId} {k : IntKind} {v : Value} {d : DataW H} {ps : List MemPlace} (ht : P.underlying t = some (.slice e)) (he : P.underlying e = some (.int k)) (hc : P.cellsOf e = 1)
    (hd : DataW.Trod enc P w 0 (fun _ => true) true t v d ps) (hval : Value.okWide P w r b0 t v) (hlt : ∀ x ∈ ps, x.block < w.heap.size) :
    ∃ (ad : Option Addr) (c : Nat) (xs : List Int), v = .slice ad xs.length c ∧ SlP w k ad c xs := by
  obtain ⟨a, len, cap, rfl⟩ := okWide_slice ht hval
  obtain ⟨fuel, hf⟩ := hd
  have hcells : (Value.slice a len cap).cells.toList = [.slice a len cap] := by simp [Value.cells]
  rw [hcells] at hf
  rcases open_ints ht he hc hf with ⟨h1, _⟩ | ⟨c, len', cap', zs, h1, _, h2, h3, h4, h5, h6, h7⟩
  · simp only [List.cons.injEq, and_true] at h1
    exact ⟨none, 0, [], h1, Sl.nil _ _ _, by simp, by simp, by simp, fun _ => rfl⟩
  · simp only [List.cons.injEq, and_true] at h1
    cases h1
    simp only [if_true] at h4
    obtain ⟨xs, hxs⟩ : ∃ xs, xs = zs.take len := ⟨_, rfl⟩
    have hlen : xs.length = len := by rw [hxs, List.length_take]; omega
    subst hlen
    refine ⟨some c, cap, xs, rfl, ?_, fun x hx => h7 x (by rw [hxs] at hx; exact List.mem_of_mem_take hx), by omega, h3, fun h => by cases h⟩
    intro h0
    simp only [Prod.mk.injEq] at h5
    have hs : c.spot = none := by
      have := h6 0 (by omega)
      have e : c.add 0 = c := by simp [Addr.add]
      rw [e] at this
      unfold World.cell? at this
      split at this
      · cases hsp : c.spot with
        | none => rfl
        | some z => rw [hsp] at this; simp at this
      · cases this
    obtain ⟨b, off, spot⟩ := c
    simp only at hs
    subst hs
    refine ⟨b, off, rfl, ?_, fun i hi => ?_⟩
    · exact hlt (.cell b (off + 0)) (by rw [h5.2]; exact List.mem_map.2 ⟨0, List.mem_range.2 (by omega), rfl⟩)
    · have e : (⟨b, off + i, none⟩ : Addr) = (⟨b, off, none⟩ : Addr).add i := by
        unfold Addr.add
        split
        · rename_i h; subst h; rfl
        · rfl
      rw [e, h6 i (by omega)]
      congr 2
      rw [hxs]
      simp only [List.getD_eq_getElem?_getD]
      rw [List.getElem?_take_of_lt hi]
end

theorem wfs_u64 {xs : List Int} (h : ∀ x ∈ xs, (Lit.int .u64 x).wf = true) : AllW xs := fun x hx => wf_u64 (h x hx)
end Go.Proofs.Ytlgjnidphldiiaa
