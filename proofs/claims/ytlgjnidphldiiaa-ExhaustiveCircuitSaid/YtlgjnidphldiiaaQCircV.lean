/- Circuits: Valid and Small, of the program and of the reference. -/
import Derived.Test.YtlgjnidphldiiaaQCircM
namespace Go.Proofs.Ytlgjnidphldiiaa
open Go.RowKit

theorem ret_bool' {a b : Bool} (h : a = b) : Ending.returned (.bool a) = .returned (.bool b) := by rw [h]
theorem linOk_stop {p n : Int} {L : List (Int × Int)} {k : Nat} (hk : k < L.length) (h : ¬ linAt p n L k) : linOk p n L = false := by
  unfold linOk
  exact decide_eq_false fun hh => h (hh k hk)
theorem linOk_all {p n : Int} {L : List (Int × Int)} (h : ∀ k, k < L.length → linAt p n L k) : linOk p n L = true := by
  unfold linOk
  exact decide_eq_true h

/-- What the walk of a loop over terms keeps. -/
def LinUpTo (p n : Int) (L : List (Int × Int)) (k : Nat) (lst : Int) : Prop := (∀ j, j < k → linAt p n L j) ∧ (k = 0 → lst = -1) ∧ (0 < k → lst = (L.getD (k - 1) (0, 0)).1)
theorem LinUpTo.zero (p n : Int) (L : List (Int × Int)) : LinUpTo p n L 0 (-1) := ⟨fun j hj => by omega, fun _ => rfl, fun h => by omega⟩
theorem LinUpTo.lo {p n : Int} {L : List (Int × Int)} {k : Nat} {lst : Int} (h : LinUpTo p n L k lst) : -1 ≤ lst := by
  rcases Nat.eq_zero_or_pos k with h0 | h0
  · rw [h.2.1 h0]; omega
  · rw [h.2.2 h0]; have := (h.1 (k - 1) (by omega)).1; omega
theorem LinUpTo.at_ {p n : Int} {L : List (Int × Int)} {k : Nat} {lst : Int} (h : LinUpTo p n L k lst) : linAt p n L k ↔ lst < (L.getD k (0, 0)).1 ∧ (L.getD k (0, 0)).1 < n ∧ (L.getD k (0, 0)).2 ≠ 0 ∧ (L.getD k (0, 0)).2 < p := by
  have hlo := h.lo
  unfold linAt
  rcases Nat.eq_zero_or_pos k with h0 | h0
  · have := h.2.1 h0
    constructor
    · rintro ⟨⟨h1, h2⟩, _, h3, h4⟩; exact ⟨by omega, h2, h3, h4⟩
    · rintro ⟨h1, h2, h3, h4⟩; exact ⟨⟨by omega, h2⟩, fun h => by omega, h3, h4⟩
  · have := h.2.2 h0
    constructor
    · rintro ⟨⟨h1, h2⟩, h5, h3, h4⟩; have := h5 h0; exact ⟨by omega, h2, h3, h4⟩
    · rintro ⟨h1, h2, h3, h4⟩; exact ⟨⟨by omega, h2⟩, fun _ => by omega, h3, h4⟩
theorem LinUpTo.next {p n : Int} {L : List (Int × Int)} {k : Nat} {lst : Int} (h : LinUpTo p n L k lst) (h1 : linAt p n L k) : LinUpTo p n L (k + 1) (L.getD k (0, 0)).1 :=
  ⟨fun j hj => by
    rcases Nat.lt_or_ge j k with h2 | h2
    · exact h.1 j h2
    · have : j = k := by omega
      subst this; exact h1, fun h => by omega, fun _ => by rw [Nat.add_sub_cancel]⟩
theorem LinUpTo.all {p n : Int} {L : List (Int × Int)} {lst : Int} (h : LinUpTo p n L L.length lst) : linOk p n L = true := linOk_all h.1

theorem wf_i {x : Int} (h : (Lit.int .i64 x).wf = true) : -9223372036854775808 ≤ x ∧ x ≤ 9223372036854775807 := by
  simp [Lit.wf, IntKind.min, IntKind.max, IntKind.signed, IntKind.bits] at h
  omega
theorem LinS.get {w : World} {a : Option Addr} {L : List (Int × Int)} (h : LinS w a L) {k : Nat} (hk : k < L.length) : ∃ b off, a = some ⟨b, off, none⟩ ∧ b < w.heap.size ∧ w.cell? ⟨b, off + k * 2, none⟩ = some (.int .i64 (L.getD k (0, 0)).1) ∧ w.cell? ⟨b, off + k * 2 + 1, none⟩ = some (.int .u64 (L.getD k (0, 0)).2) := by
  obtain ⟨b, off, e, hl, hc⟩ := h (by omega)
  exact ⟨b, off, e, hl, (hc k hk).1, (hc k hk).2⟩
theorem LinW.get {L : List (Int × Int)} (h : LinW L) {k : Nat} (hk : k < L.length) : (-9223372036854775808 ≤ (L.getD k (0, 0)).1 ∧ (L.getD k (0, 0)).1 ≤ 9223372036854775807) ∧ 0 ≤ (L.getD k (0, 0)).2 ∧ (L.getD k (0, 0)).2 < 18446744073709551616 := by
  have := h _ (getD_mem' hk (0, 0))
  exact ⟨wf_i this.1, wf_u64 this.2⟩

theorem lc_len {w : World} {s : Lc} (h : LcOk w s) : s.l.length ≤ 9223372036854775807 := by
  have h1 := h.le
  have h2 := h.mx
  simp only [maxLen] at h2
  omega
theorem wrap_succ {k n : Nat} (hk : k < n) (hn : n ≤ 9223372036854775807) : wrap64 ((k : Int) + 1) = (k : Int) + 1 := by
  unfold wrap64; omega
theorem meas_succ {k n : Nat} (hk : k < n) (hn : n ≤ 9223372036854775807) : n - (intOf (.int .i64 (wrap64 ((k : Int) + 1)))).toNat < n - (intOf (.int .i64 (k : Int))).toNat := by
  rw [wrap_succ hk hn]
  simp only [intOf]
  omega
theorem rel_succ {k n : Nat} (hk : k < n) (hn : n ≤ 9223372036854775807) : Value.int .i64 (wrap64 ((k : Int) + 1)) = .int .i64 ((k + 1 : Nat) : Int) := by
  rw [wrap_succ hk hn]
  rfl

end Go.Proofs.Ytlgjnidphldiiaa
