/- Structs with slices as a law's parameters. -/
import Derived.Test.YtlgjnidphldiiaaList
import Derived.Lib.SmallJoins
namespace Go.Proofs.Ytlgjnidphldiiaa
open Go.ChangeShapes Go.WideShapes Go.ChangeAt Go.RowKit

section
variable {H : Type} {enc : TypeId × Value → H} {P : Program} {w : World}

theorem open_slice_f {t e : TypeId} {k : IntKind} {fuel : Nat} {v : Value} {y : DataW H × List MemPlace} (ht : P.underlying t = some (.slice e)) (he : P.underlying e = some (.int k)) (hc : P.cellsOf e = 1)
    (hf : DataW.trod enc P w 0 (fun _ => true) true fuel t [v] = some y) (hlt : ∀ x ∈ y.2, x.block < w.heap.size) :
    ∃ (ad : Option Addr) (c : Nat) (xs : List Int), v = .slice ad xs.length c ∧ SlP w k ad c xs := by
  rcases open_ints ht he hc hf with ⟨h1, _⟩ | ⟨c, len', cap', zs, h1, _, h2, h3, h4, h5, h6, h7⟩
  · simp only [List.cons.injEq, and_true] at h1
    exact ⟨none, 0, [], h1, Sl.nil _ _ _, by simp, by simp, by simp, fun _ => rfl⟩
  · simp only [List.cons.injEq, and_true] at h1
    subst h1
    simp only [if_true] at h4
    obtain ⟨xs, hxs⟩ : ∃ xs, xs = zs.take len' := ⟨_, rfl⟩
    have hlen : xs.length = len' := by rw [hxs, List.length_take]; omega
    subst hlen
    refine ⟨some c, cap', xs, rfl, ?_, fun x hx => h7 x (by rw [hxs] at hx; exact List.mem_of_mem_take hx), by omega, h3, fun h => by cases h⟩
    intro h0
    have hs : c.spot = none := by
      have := h6 0 (by omega)
      have e : c.add 0 = c := by simp [Addr.add]
      rw [e] at this
      unfold World.cell? at this
      split at this
      · cases hsp : c.spot with
        | none => rfl
        | some z => rw [hsp] at this; simp at this
      · cases this
    obtain ⟨b, off, spot⟩ := c
    simp only at hs
    subst hs
    refine ⟨b, off, rfl, ?_, fun i hi => ?_⟩
    · exact hlt (.cell b (off + 0)) (by rw [h5]; exact List.mem_map.2 ⟨0, List.mem_range.2 (by omega), rfl⟩)
    · have e : (⟨b, off + i, none⟩ : Addr) = (⟨b, off, none⟩ : Addr).add i := by
        unfold Addr.add
        split
        · rename_i h; subst h; rfl
        · rfl
      rw [e, h6 i (by omega)]
      congr 2
      rw [hxs]
      simp only [List.getD_eq_getElem?_getD]
      rw [List.getElem?_take_of_lt hi]
end
end Go.Proofs.Ytlgjnidphldiiaa
