/- Exhaustive search, plain: the values of one variable. -/
import Derived.Test.YtlgjnidphldiiaaExE
namespace Go.Proofs.Ytlgjnidphldiiaa
open Go.RowKit

def esV (p : Int) (R : List Row3) (Wl : List Int) (v : Nat) : List Eq3 := (rowsAt R v).map (eqnV p Wl v)
theorem okAt_es {p V v : Nat} {R : List Row3} {Wl : List Int} (hv : vld (p : Int) = true) (hR : ∀ r ∈ R, RowOk p V r) (h0 : 0 < v) (hl : v ≤ Wl.length) (x : Int) : okAt p R (Wl.take v ++ [x]) = (esV p R Wl v).all (holdsE p x) := by
  have hlen : (Wl.take v).length = v := by rw [List.length_take]; omega
  unfold okAt esV
  rw [List.length_append, List.length_singleton, hlen, Nat.add_sub_cancel, List.all_map]
  rw [Bool.eq_iff_iff, List.all_eq_true, List.all_eq_true]
  refine forall_congr' fun r => forall_congr' fun hr => ?_
  have hr2 := List.mem_filter.1 hr
  obtain ⟨⟨k1, _⟩, ⟨k2, _⟩, ⟨k3, _⟩⟩ := hR r hr2.1
  have hg : gtR r = v := beq_iff_eq.1 hr2.2
  have hg2 := hg
  unfold gtR at hg2
  have e : eqnV (p : Int) Wl v r = eqOf p (Wl.take v) r := by
    unfold eqnV eqOf
    rw [lnV_of hv k1 (by omega) h0 hl, lnV_of hv k2 (by omega) h0 hl, lnV_of hv k3 (by omega) h0 hl]
  rw [Function.comp, e, holds_sat hv (by omega) ⟨k1, k2, k3⟩ (by omega)]
theorem esV_bd {p V v : Nat} {R : List Row3} {Wl : List Int} (hv : vld (p : Int) = true) (hR : ∀ r ∈ R, RowOk p V r) : ∀ e ∈ esV p R Wl v, EqB p e := fun e he => by
  obtain ⟨r, hr, rfl⟩ := List.mem_map.1 he
  obtain ⟨⟨k1, _⟩, ⟨k2, _⟩, ⟨k3, _⟩⟩ := hR r (List.mem_filter.1 hr).1
  have a := lnV_bd (Wl := Wl) (v := v) hv k1
  have b := lnV_bd (Wl := Wl) (v := v) hv k2
  have c := lnV_bd (Wl := Wl) (v := v) hv k3
  exact ⟨a.1, a.2, b.1, b.2, c.1, c.2⟩
/-- What a value of the variable v brings. -/
def gV (p : Nat) (R : List Row3) (V v : Nat) (Wl : List Int) (x : Nat) : Nat := if (esV p R Wl v).all (holdsE p (x : Int)) then cnt p R (V - (v + 1)) (Wl.take v ++ [(x : Int)]) else 0
theorem cnt_at {p V v : Nat} {R : List Row3} {Wl : List Int} (hv : vld (p : Int) = true) (hR : ∀ r ∈ R, RowOk p V r) (h0 : 0 < v) (hl : v ≤ Wl.length) (hvV : v < V) : cnt p R (V - v) (Wl.take v) = sumN p (gV p R V v Wl) := by
  rw [show V - v = V - (v + 1) + 1 by omega, cnt]
  refine sumN_congr fun x _ => ?_
  rw [okAt_es hv hR h0 hl]
  rfl
theorem gV_lin {p V v : Nat} {R : List Row3} {Wl IL : List Int} {e : Eq3} (hv : vld (p : Int) = true) (hi : InvL p p IL) (he : e ∈ esV p R Wl v) (hq : quadE e = false) (hs : (slopeE p e != 0) = true) {y : Nat}
    (hy : (y : Int) = restE p e * IL.getD (slopeE p e).toNat 0 % p) : sumN p (gV p R V v Wl) = gV p R V v Wl y := by
  have hp := vld_pos hv
  have hsb : 0 ≤ slopeE p e ∧ slopeE p e < p := mod_lt' (show (0 : Int) < p by omega) _
  have hs0 : slopeE p e ≠ 0 := bne_iff_ne.1 hs
  have hyb := mod_lt' (show (0 : Int) < p by omega) (restE p e * IL.getD (slopeE p e).toNat 0)
  have h1 := hi.inv (slopeE p e).toNat (by omega) (by omega)
  rw [Int.toNat_of_nonneg hsb.1] at h1
  refine sumN_one (by omega) fun x hx hne => ?_
  unfold gV
  rw [if_neg]
  intro hall
  have h2 := List.all_eq_true.1 hall e he
  have h3 := lin_once (v := IL.getD (slopeE p e).toNat 0) hq (Cg.of (by rw [h1, Int.emod_eq_of_lt (by omega) (by omega)])) h2 ⟨by omega, by omega⟩
  rw [← hy] at h3
  omega
theorem gV_quad {p V v : Nat} {R : List Row3} {Wl : List Int} {e : Eq3} (hv : vld (p : Int) = true) (hb : EqB p e) (he : e ∈ esV p R Wl v) (hq : quadE e = true) {a b x : Nat} (hab : a < b) (hbx : b < x) (ha : holdsE p (a : Int) e = true) (hb2 : holdsE p (b : Int) e = true) :
    ∀ y, x ≤ y → y < p → gV p R V v Wl y = 0 := fun y h1 h2 => by
  unfold gV
  rw [if_neg]
  intro hall
  have h3 := List.all_eq_true.1 hall e he
  unfold quadE at hq
  rw [Bool.and_eq_true] at hq
  have n1 : e.a.s ≠ 0 := bne_iff_ne.1 hq.1
  have n2 : e.b.s ≠ 0 := bne_iff_ne.1 hq.2
  have s1 := hb.sa
  have s2 := hb.sb
  have := quad_twice hv ⟨by omega, s1.2⟩ ⟨by omega, s2.2⟩ ha hb2 h3 ⟨by omega, by omega⟩ ⟨by omega, by omega⟩ ⟨by omega, by omega⟩ (by omega) (by omega)
  omega
/-- Roots of an equation below x, two at most. -/
def Roots (p : Int) (e : Eq3) (x : Nat) (n : Nat) : Prop := n ≤ 2 ∧ (1 ≤ n → ∃ a, a < x ∧ holdsE p (a : Int) e = true) ∧ (2 ≤ n → ∃ a b, a < b ∧ b < x ∧ holdsE p (a : Int) e = true ∧ holdsE p (b : Int) e = true)
theorem Roots.zero (p : Int) (e : Eq3) : Roots p e 0 0 := ⟨by omega, fun h => absurd h (by omega), fun h => absurd h (by omega)⟩
theorem Roots.keep {p : Int} {e : Eq3} {x n : Nat} (h : Roots p e x n) : Roots p e (x + 1) n := ⟨h.1, fun k => by obtain ⟨a, h1, h2⟩ := h.2.1 k; exact ⟨a, by omega, h2⟩, fun k => by obtain ⟨a, b, h1, h2, h3⟩ := h.2.2 k; exact ⟨a, b, h1, by omega, h3⟩⟩
theorem Roots.more {p : Int} {e : Eq3} {x n : Nat} (h : Roots p e x n) (hn : n < 2) (hx : holdsE p (x : Int) e = true) : Roots p e (x + 1) (n + 1) := ⟨by omega, fun _ => ⟨x, by omega, hx⟩, fun k => by
  obtain ⟨a, h1, h2⟩ := h.2.1 (by omega)
  exact ⟨a, x, h1, by omega, h2, hx⟩⟩
end Go.Proofs.Ytlgjnidphldiiaa
