/- Circuits: Valid and Small of circuits, of the program and of the reference. -/
import Derived.Test.YtlgjnidphldiiaaCircY
namespace Go.Proofs.Ytlgjnidphldiiaa
open Go.RowKit

theorem cir_tbl {p pub vars sec : Int} {R : List Rw} {H : List Hn} (h : tblOk p pub vars R = false) : cirOk p pub vars R sec H = false := by
  unfold cirOk
  exact decide_eq_false fun hh => by rw [h] at hh; cases hh.1
theorem cir_sizes {p pub vars sec : Int} {R : List Rw} {H : List Hn} (h : ¬ (0 ≤ sec ∧ vars = 1 + pub + sec + H.length)) : cirOk p pub vars R sec H = false := by
  unfold cirOk
  exact decide_eq_false fun hh => h ⟨hh.2.1, hh.2.2.1⟩
theorem cir_stop {p pub vars sec : Int} {R : List Rw} {H : List Hn} {k : Nat} (hk : k < H.length) (h : hintOk p (1 + pub + sec + k) (H.getD k default) = false) : cirOk p pub vars R sec H = false := by
  unfold cirOk
  exact decide_eq_false fun hh => by have := hh.2.2.2 k hk; rw [h] at this; cases this
theorem cir_all {p pub vars sec : Int} {R : List Rw} {H : List Hn} (h1 : tblOk p pub vars R = true) (h2 : 0 ≤ sec ∧ vars = 1 + pub + sec + H.length) (h : ∀ k, k < H.length → hintOk p (1 + pub + sec + k) (H.getD k default) = true) : cirOk p pub vars R sec H = true := by
  unfold cirOk
  exact decide_eq_true ⟨h1, h2.1, h2.2, h⟩
theorem tbl_bd {p pub vars : Int} {R : List Rw} (h : tblOk p pub vars R = true) : vld p = true ∧ 0 ≤ pub ∧ pub < vars ∧ vars ≤ 65536 ∧ R.length ≤ 16384 := by
  have hh := of_decide_eq_true h
  exact ⟨hh.1.1, hh.1.2.1, hh.1.2.2.1, hh.1.2.2.2, hh.2.1⟩

end Go.Proofs.Ytlgjnidphldiiaa
