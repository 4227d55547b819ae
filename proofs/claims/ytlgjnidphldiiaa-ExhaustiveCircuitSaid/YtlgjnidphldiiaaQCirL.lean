/- Circuits: rows, hints, terms as elements of several cells. -/
import Derived.Test.YtlgjnidphldiiaaQOwnC
import Derived.Test.YtlgjnidphldiiaaQCircD
namespace Go.Proofs.Ytlgjnidphldiiaa
open Go.RowKit

def lcV (s : Lc) : Value := .slice s.ad s.l.length s.cap
def rwL : Lay Rw := ⟨fun r => [lcV r.a, lcV r.b, lcV r.c], 3, fun _ => rfl, by decide, fun x u hu => by
  simp only [List.mem_cons, List.not_mem_nil, or_false] at hu
  rcases hu with rfl | rfl | rfl <;> rfl⟩
def hnL : Lay Hn := ⟨fun h => [.int .i64 h.k, lcV h.a, lcV h.b, .int .i64 h.bit], 4, fun _ => rfl, by decide, fun x u hu => by
  simp only [List.mem_cons, List.not_mem_nil, or_false] at hu
  rcases hu with rfl | rfl | rfl | rfl <;> rfl⟩
def tmL : Lay (Int × Int) := ⟨fun t => [.int .i64 t.1, .int .u64 t.2], 2, fun _ => rfl, by decide, fun x u hu => by
  simp only [List.mem_cons, List.not_mem_nil, or_false] at hu
  rcases hu with rfl | rfl <;> rfl⟩
theorem Try.infoRw : (Try.prog.info? 106).map (fun i => (i.zero, i.size, i.bytes)) = some (some (.agg #[.slice none 0 0, .slice none 0 0, .slice none 0 0]), 3, 72) := by kernel_rfl

theorem Try.infoHn : (Try.prog.info? 108).map (fun i => (i.zero, i.size, i.bytes)) = some (some (.agg #[.int .i64 0, .slice none 0 0, .slice none 0 0, .int .i64 0]), 4, 64) := by kernel_rfl

theorem Try.infoTm : (Try.prog.info? 100).map (fun i => (i.zero, i.size, i.bytes)) = some (some (.agg #[.int .i64 0, .int .u64 0]), 2, 16) := by kernel_rfl

theorem flat_inv {α : Type} {L : Lay α} {xs : List α} {k : Nat} {u : Value} (d : α) (h : (xs.flatMap L.f)[k]? = some u) : ∃ i j, k = i * L.m + j ∧ i < xs.length ∧ j < L.m ∧ (L.f (xs.getD i d))[j]? = some u := by
  have hk : k < xs.length * L.m := by
    rcases Nat.lt_or_ge k (xs.length * L.m) with h1 | h1
    · exact h1
    · rw [List.getElem?_eq_none (by rw [L.flat_len]; exact h1)] at h; cases h
  have hj : k % L.m < L.m := Nat.mod_lt _ L.pos
  have hi : k / L.m < xs.length := Nat.div_lt_of_lt_mul (by rw [Nat.mul_comm]; exact hk)
  have e : k = k / L.m * L.m + k % L.m := by rw [Nat.mul_comm]; exact (Nat.div_add_mod k L.m).symm
  rw [e, L.flat_get xs d hi hj] at h
  exact ⟨_, _, e, hi, hj, h⟩

section
variable {w : World} {a : Option Addr} {cap : Nat}

theorem SlG.at_ {α : Type} {L : Lay α} {b off : Nat} {xs : List α} (d : α) (hc : ∀ k u, (xs.flatMap L.f)[k]? = some u → w.cell? ⟨b, off + k, none⟩ = some u) {i j : Nat} (hi : i < xs.length) (hj : j < L.m) {u : Value} (hu : (L.f (xs.getD i d))[j]? = some u) : w.cell? ⟨b, off + i * L.m + j, none⟩ = some u := by
  rw [Nat.add_assoc]
  exact hc _ _ (by rw [L.flat_get xs d hi hj]; exact hu)

theorem RowsP.of_slg {R : List Rw} (h : SlG rwL w a R) (hok : ∀ r ∈ R, LcOk w r.a ∧ LcOk w r.b ∧ LcOk w r.c) (h1 : R.length ≤ cap) (h2 : cap ≤ maxLen) (h3 : a = none → cap = 0) : RowsP w a cap R :=
  ⟨fun h0 => by
    obtain ⟨b, off, e, hl, hc⟩ := h h0
    exact ⟨b, off, e, hl, fun i hi => ⟨SlG.at_ (j := 0) default hc hi (by decide) rfl, SlG.at_ (j := 1) default hc hi (by decide) rfl, SlG.at_ (j := 2) default hc hi (by decide) rfl⟩⟩, hok, h1, h2, h3⟩
theorem RowsP.slg {R : List Rw} (h : RowsP w a cap R) : SlG rwL w a R := fun h0 => by
  obtain ⟨b, off, e, hl, hc⟩ := h.s h0
  refine ⟨b, off, e, hl, fun k u hu => ?_⟩
  obtain ⟨i, j, rfl, hi, hj, hu⟩ := flat_inv default hu
  obtain ⟨h1, h2, h3⟩ := hc i hi
  have hj : j < 3 := hj
  rw [← Nat.add_assoc]
  match j, hj, hu with
  | 0, _, hu => cases hu; exact h1
  | 1, _, hu => cases hu; exact h2
  | 2, _, hu => cases hu; exact h3
theorem HintsP.of_slg {R : List Hn} (h : SlG hnL w a R) (hok : ∀ r ∈ R, LcOk w r.a ∧ LcOk w r.b ∧ (Lit.int .i64 r.k).wf = true ∧ (Lit.int .i64 r.bit).wf = true) (h1 : R.length ≤ cap) (h2 : cap ≤ maxLen) (h3 : a = none → cap = 0) : HintsP w a cap R :=
  ⟨fun h0 => by
    obtain ⟨b, off, e, hl, hc⟩ := h h0
    exact ⟨b, off, e, hl, fun i hi => ⟨SlG.at_ (j := 0) default hc hi (by decide) rfl, SlG.at_ (j := 1) default hc hi (by decide) rfl, SlG.at_ (j := 2) default hc hi (by decide) rfl, SlG.at_ (j := 3) default hc hi (by decide) rfl⟩⟩, hok, h1, h2, h3⟩
theorem HintsP.slg {R : List Hn} (h : HintsP w a cap R) : SlG hnL w a R := fun h0 => by
  obtain ⟨b, off, e, hl, hc⟩ := h.s h0
  refine ⟨b, off, e, hl, fun k u hu => ?_⟩
  obtain ⟨i, j, rfl, hi, hj, hu⟩ := flat_inv default hu
  obtain ⟨h1, h2, h3, h4⟩ := hc i hi
  have hj : j < 4 := hj
  rw [← Nat.add_assoc]
  match j, hj, hu with
  | 0, _, hu => cases hu; exact h1
  | 1, _, hu => cases hu; exact h2
  | 2, _, hu => cases hu; exact h3
  | 3, _, hu => cases hu; exact h4
theorem LinS.of_slg {R : List (Int × Int)} (h : SlG tmL w a R) : LinS w a R := fun h0 => by
  obtain ⟨b, off, e, hl, hc⟩ := h h0
  exact ⟨b, off, e, hl, fun i hi => ⟨SlG.at_ (j := 0) (0, 0) hc hi (by decide) rfl, SlG.at_ (j := 1) (0, 0) hc hi (by decide) rfl⟩⟩
theorem LinS.slg {R : List (Int × Int)} (h : LinS w a R) : SlG tmL w a R := fun h0 => by
  obtain ⟨b, off, e, hl, hc⟩ := h h0
  refine ⟨b, off, e, hl, fun k u hu => ?_⟩
  obtain ⟨i, j, rfl, hi, hj, hu⟩ := flat_inv (0, 0) hu
  obtain ⟨h1, h2⟩ := hc i hi
  have hj : j < 2 := hj
  rw [← Nat.add_assoc]
  match j, hj, hu with
  | 0, _, hu => cases hu; exact h1
  | 1, _, hu => cases hu; exact h2
end
end Go.Proofs.Ytlgjnidphldiiaa
