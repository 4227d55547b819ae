/- Exhaustive search, plain: the values of one variable. -/
import Derived.Test.YtalmgeefkcebdaaGreatDoorQ21
namespace Go.Proofs.YtalmgeefkcebdaaGreatDoor
open Go.RowKit

def esV (p : Int) (R : List Row3) (Wl : List Int) (v : Nat) : List Eq3 := (rowsAt R v).map (eqnV p Wl v)
theorem okAt_es {p V v : Nat} {R : List Row3} {Wl : List Int} (hv : vld (p : Int) = true) (hR : ∀ r ∈ R, RowOk p V r) (h0 : 0 < v) (hl : v ≤ Wl.length) (x : Int) : okAt p R (Wl.take v ++ [x]) = (esV p R Wl v).all (holdsE p x) := by
  have hlen : (Wl.take v).length = v := by rw [List.length_take]; omega
  unfold okAt esV
  rw [List.length_append, List.length_singleton, hlen, Nat.add_sub_cancel, List.all_map]
  rw [Bool.eq_iff_iff, List.all_eq_true, List.all_eq_true]
  refine forall_congr' fun r => forall_congr' fun hr => ?_
  have hr2 := List.mem_filter.1 hr
  obtain ⟨⟨k1, _⟩, ⟨k2, _⟩, ⟨k3, _⟩⟩ := hR r hr2.1
  have hg : gtR r = v := beq_iff_eq.1 hr2.2
  have hg2 := hg
  unfold gtR at hg2
  have e : eqnV (p : Int) Wl v r = eqOf p (Wl.take v) r := by
    unfold eqnV eqOf
    rw [lnV_of hv k1 (by omega) h0 hl, lnV_of hv k2 (by omega) h0 hl, lnV_of hv k3 (by omega) h0 hl]
  rw [Function.comp, e, holds_sat hv (by omega) ⟨k1, k2, k3⟩ (by omega)]
theorem esV_bd {p V v : Nat} {R : List Row3} {Wl : List Int} (hv : vld (p : Int) = true) (hR : ∀ r ∈ R, RowOk p V r) : ∀ e ∈ esV p R Wl v, EqB p e := fun e he => by
  obtain ⟨r, hr, rfl⟩ := List.mem_map.1 he
  obtain ⟨⟨k1, _⟩, ⟨k2, _⟩, ⟨k3, _⟩⟩ := hR r (List.mem_filter.1 hr).1
  have a := lnV_bd (Wl := Wl) (v := v) hv k1
  have b := lnV_bd (Wl := Wl) (v := v) hv k2
  have c := lnV_bd (Wl := Wl) (v := v) hv k3
  exact ⟨a.1, a.2, b.1, b.2, c.1, c.2⟩
/-- What a value of the variable v brings. -/
def gV (p : Nat) (R : List Row3) (V v : Nat) (Wl : List Int) (x : Nat) : Nat := if (esV p R Wl v).all (holdsE p (x : Int)) then cnt p R (V - (v + 1)) (Wl.take v ++ [(x : Int)]) else 0
theorem cnt_at {p V v : Nat} {R : List Row3} {Wl : List Int} (hv : vld (p : Int) = true) (hR : ∀ r ∈ R, RowOk p V r) (h0 : 0 < v) (hl : v ≤ Wl.length) (hvV : v < V) : cnt p R (V - v) (Wl.take v) = sumN p (gV p R V v Wl) := by
  rw [show V - v = V - (v + 1) + 1 by omega, cnt]
  refine sumN_congr fun x _ => ?_
  rw [okAt_es hv hR h0 hl]
  rfl
theorem gV_lin {p V v : Nat} {R : List Row3} {Wl IL : List Int} {e : Eq3} (hv : vld (p : Int) = true) (hi : InvL p p IL) (he : e ∈ esV p R Wl v) (hq : quadE e = false) (hs : (slopeE p e != 0) = true) {y : Nat}
    (hy : (y : Int) = restE p e * IL.getD (slopeE p e).toNat 0 % p) : sumN p (gV p R V v Wl) = gV p R V v Wl y := by
  have hp := vld_pos hv
  have hsb : 0 ≤ slopeE p e ∧ slopeE p e < p := mod_lt' (show (0 : Int) < p by omega) _
  have hs0 : slopeE p e ≠ 0 := bne_iff_ne.1 hs
  have hyb := mod_lt' (show (0 : Int) < p by omega) (restE p e * IL.getD (slopeE p e).toNat 0)
  have h1 := hi.inv (slopeE p e).toNat (by omega) (by omega)
  rw [Int.toNat_of_nonneg hsb.1] at h1
  refine sumN_one (by omega) fun x hx hne => ?_
  unfold gV
  rw [if_neg]
  intro hall
  have h2 := List.all_eq_true.1 hall e he
  have h3 := lin_once (v := IL.getD (slopeE p e).toNat 0) hq (Cg.of (by rw [h1, Int.emod_eq_of_lt (by omega) (by omega)])) h2 ⟨by omega, by omega⟩
  rw [← hy] at h3
  omega
theorem gV_quad {p V v : Nat} {R : List Row3} {Wl : List Int} {e : Eq3} (hv : vld (p : Int) = true) (hb : EqB p e) (he : e ∈ esV p R Wl v) (hq : quadE e = true) {a b x : Nat} (hab : a < b) (hbx : b < x) (ha : holdsE p (a : Int) e = true) (hb2 : holdsE p (b : Int) e = true) :
    ∀ y, x ≤ y → y < p → gV p R V v Wl y = 0 := fun y h1 h2 => by
  unfold gV
  rw [if_neg]
  intro hall
  have h3 := List.all_eq_true.1 hall e he
  unfold quadE at hq
  rw [Bool.and_eq_true] at hq
  have n1 : e.a.s ≠ 0 := bne_iff_ne.1 hq.1
  have n2 : e.b.s ≠ 0 := bne_iff_ne.1 hq.2
  have s1 := hb.sa
  have s2 := hb.sb
  have := quad_twice hv ⟨by omega, s1.2⟩ ⟨by omega, s2.2⟩ ha hb2 h3 ⟨by omega, by omega⟩ ⟨by omega, by omega⟩ ⟨by omega, by omega⟩ (by omega) (by omega)
  omega
/-- Roots of an equation below x, two at most. -/
def Roots (p : Int) (e : Eq3) (x : Nat) (n : Nat) : Prop := n ≤ 2 ∧ (1 ≤ n → ∃ a, a < x ∧ holdsE p (a : Int) e = true) ∧ (2 ≤ n → ∃ a b, a < b ∧ b < x ∧ holdsE p (a : Int) e = true ∧ holdsE p (b : Int) e = true)
theorem Roots.zero (p : Int) (e : Eq3) : Roots p e 0 0 := ⟨by omega, fun h => absurd h (by omega), fun h => absurd h (by omega)⟩
theorem Roots.keep {p : Int} {e : Eq3} {x n : Nat} (h : Roots p e x n) : Roots p e (x + 1) n := ⟨h.1, fun k => by obtain ⟨a, h1, h2⟩ := h.2.1 k; exact ⟨a, by omega, h2⟩, fun k => by obtain ⟨a, b, h1, h2, h3⟩ := h.2.2 k; exact ⟨a, b, h1, by omega, h3⟩⟩
theorem Roots.more {p : Int} {e : Eq3} {x n : Nat} (h : Roots p e x n) (hn : n < 2) (hx : holdsE p (x : Int) e = true) : Roots p e (x + 1) (n + 1) := ⟨by omega, fun _ => ⟨x, by omega, hx⟩, fun k => by
  obtain ⟨a, h1, h2⟩ := h.2.1 (by omega)
  exact ⟨a, x, h1, by omega, h2, hx⟩⟩
end Go.Proofs.YtalmgeefkcebdaaGreatDoor

/- Exhaustive search: the count. -/
namespace Go.Proofs.YtalmgeefkcebdaaGreatDoor
open Go.ChangeShapes Go.WideShapes Go.ChangeAt Go.RowKit

/-- What a count answers and leaves. -/
def RetCnt (w0 w : World) (q p V last gi gr gw : Nat) (IL : List Int) (R : List Row3) (Wl : List Int) (v : Nat) (most : Int) (en : Ending) (w' : World) : Prop :=
  en = .returned (.int .i64 (min most (cnt p R (V - v) (Wl.take v) : Int))) ∧ ∃ Wl', SS w0 w' q p V last gi gr gw IL R Wl' ∧ AllW Wl' ∧ Wl'.length = V ∧ Wl'.take v = Wl.take v ∧ KW gw w0.heap.size w w'

set_option maxRecDepth 10000 in
set_option maxHeartbeats 8000000 in
theorem countTop_any {w0 w : World} {q p V last gi gr gw : Nat} {IL : List Int} {R : List Row3} {Wl : List Int} (D : SS w0 w q p V last gi gr gw IL R Wl) (hA : AllW Wl) (hVl : Wl.length = V) (hV : V ≤ 65536) (hv : vld (p : Int) = true) (h257 : p ≤ 257) (hlast : ∀ r ∈ R, gtR r ≤ last) (hlV : last < V) (v : Nat) (most : Int) (hvV : v ≤ V) (hm : 0 ≤ most ∧ most ≤ 9223372036854775807) (hb : last < v ∨ most = 0) :
    Calls Tryz.prog 85 #[.pointer (some ⟨q, 0, none⟩), .int .i64 v, .int .i64 most] w (RetCnt w0 w q p V last gi gr gw IL R Wl v most) := by
  have hp := vld_pos hv
  have hlen : (Wl.take v).length = v := by rw [List.length_take]; omega
  have hres : powL p (V - v) most = min most (cnt p R (V - v) (Wl.take v) : Int) := by
    unfold powL
    rcases hb with hb | hb
    · rw [cnt_free p R (V - v) (Wl.take v) (fun r hr => by have := hlast r hr; omega), Int.min_comm]
    · subst hb
      omega
  have hret : ∀ w', Below w.heap.size w w' → RetCnt w0 w q p V last gi gr gw IL R Wl v most (.returned (.int .i64 (powL p (V - v) most))) w' := fun w' h => ⟨by rw [hres], Wl, D.mono h, hA, hVl, rfl, KW.of_below h D.below.size⟩
  have cP := fun W => power_any p (V - v) most W ⟨by omega, h257⟩ (by omega) hm
  obtain ⟨y, hy⟩ : ∃ y, powL p (V - v) most = y := ⟨_, rfl⟩
  rw [hy] at cP hret
  obtain ⟨n, hn⟩ : ∃ n, n = V - v := ⟨_, rfl⟩
  rw [← hn] at cP
  have hwr : IntKind.i64.wrap ((V : Int) - v) = (n : Int) := by rw [IntKind.wrap_i64]; omega
  replace hn := hide hn
  have hvI : (v : Int) ≤ V := by omega
  have k3 := D.blk.cell (j := 3) rfl
  clear hres hy hp
  obtain ⟨hm0, hm1⟩ := hm
  by_cases hlt : last < v
  · have hlt' : (last : Int) < v := by omega
    go_enter Tryz.func85, Tryz.ntmps85
    go_wp2_with fail
    refine Rel.region_any Tryz.mixed fun w4 hb4 => ?_
    have D4 := D.mono hb4
    refine Rel.any_held (fun W => W.cell? ⟨q, 0, none⟩ = some (.int .u64 p) ∧ W.cell? ⟨q, 4, none⟩ = some (.slice (some ⟨gw, 0, none⟩) V V)) 13 ⟨D4.blk.cell (j := 0) rfl, D4.blk.cell (j := 4) rfl⟩ fun hH0 => ?_
    refine Rel.tk (v := ?_) 0 ?_ ?_
    rotate_left
    · (intro W hSw; (try dsimp only at hSw); go_simp; try with_reducible rfl)
    try simp only [Act.put, List.setIfInBounds_toArray, List.set_cons_zero, List.set_cons_succ]
    refine Rel.tk (v := ?_) 1 ?_ ?_
    rotate_left
    · (intro W hSw; (try dsimp only at hSw); go_simp; try with_reducible rfl)
    try simp only [Act.put, List.setIfInBounds_toArray, List.set_cons_zero, List.set_cons_succ]
    refine Rel.tk (v := ?_) 2 ?_ ?_
    rotate_left
    · (intro W hSw; (try dsimp only at hSw); go_simp; try with_reducible rfl)
    try simp only [Act.put, List.setIfInBounds_toArray, List.set_cons_zero, List.set_cons_succ]
    refine Rel.tk (v := ?_) 3 ?_ ?_
    rotate_left
    · (intro W hSw; (try dsimp only at hSw); go_simp; try with_reducible rfl)
    try simp only [Act.put, List.setIfInBounds_toArray, List.set_cons_zero, List.set_cons_succ]
    refine Rel.tk (v := ?_) 4 ?_ ?_
    rotate_left
    · (intro W hSw; (try dsimp only at hSw); go_simp; try with_reducible rfl)
    try simp only [Act.put, List.setIfInBounds_toArray, List.set_cons_zero, List.set_cons_succ]
    refine Rel.tk (v := ?_) 5 ?_ ?_
    rotate_left
    · (intro W hSw; (try dsimp only at hSw); go_simp; try with_reducible rfl)
    try simp only [Act.put, List.setIfInBounds_toArray, List.set_cons_zero, List.set_cons_succ]
    refine Rel.tk (v := ?_) 6 ?_ ?_
    rotate_left
    · (intro W hSw; (try dsimp only at hSw); go_simp; try with_reducible rfl)
    try simp only [Act.put, List.setIfInBounds_toArray, List.set_cons_zero, List.set_cons_succ]
    refine Rel.tk (v := ?_) 7 ?_ ?_
    rotate_left
    · (intro W hSw; (try dsimp only at hSw); go_simp; try with_reducible rfl)
    try simp only [Act.put, List.setIfInBounds_toArray, List.set_cons_zero, List.set_cons_succ]
    refine Rel.tk (v := ?_) 8 ?_ ?_
    rotate_left
    · (intro W hSw; (try dsimp only at hSw); go_simp; try with_reducible rfl)
    try simp only [Act.put, List.setIfInBounds_toArray, List.set_cons_zero, List.set_cons_succ]
    refine Rel.tk (v := ?_) 9 ?_ ?_
    rotate_left
    · (intro W hSw; (try dsimp only at hSw); go_simp; try with_reducible rfl)
    try simp only [Act.put, List.setIfInBounds_toArray, List.set_cons_zero, List.set_cons_succ]
    refine Rel.tk (v := ?_) 10 ?_ ?_
    rotate_left
    · (intro W hSw; (try dsimp only at hSw); go_simp; try with_reducible rfl)
    try simp only [Act.put, List.setIfInBounds_toArray, List.set_cons_zero, List.set_cons_succ]
    refine Rel.tk (v := ?_) 11 ?_ ?_
    rotate_left
    · (intro W hSw; (try dsimp only at hSw); go_simp; try with_reducible rfl)
    try simp only [Act.put, List.setIfInBounds_toArray, List.set_cons_zero, List.set_cons_succ]
    refine Rel.heldNext 12 rfl (by kernel_rfl) fun K hK => ?_
    go_simp
    refine (cP w4).mono ?_
    rintro e w5 ⟨rfl, rfl⟩
    refine hK.out _ _ ⟨D4.blk.cell (j := 0) rfl, D4.blk.cell (j := 4) rfl⟩ (fun hH1 => ?_)
    clear hK K
    try simp only [Act.put, List.setIfInBounds_toArray, List.set_cons_zero, List.set_cons_succ]
    refine Rel.heldLast 13 rfl (by kernel_rfl) rfl (by kernel_rfl) fun K hK => ?_
    go_simp
    refine hK.out _ _ ?_
    clear hK K hH0 hH1
    go_wp2
    exact bodyPost_ret (v := .int .i64 y) (by simp [results, Tryz.results85, go_sem]) rfl (hret _ hb4)
  · have hlt' : ¬ (last : Int) < v := by omega
    obtain rfl : most = 0 := by omega
    go_enter Tryz.func85, Tryz.ntmps85
    go_wp2_with fail
    refine Rel.region_any Tryz.mixed fun w4 hb4 => ?_
    have D4 := D.mono hb4
    refine Rel.any_held (fun W => W.cell? ⟨q, 0, none⟩ = some (.int .u64 p) ∧ W.cell? ⟨q, 4, none⟩ = some (.slice (some ⟨gw, 0, none⟩) V V)) 13 ⟨D4.blk.cell (j := 0) rfl, D4.blk.cell (j := 4) rfl⟩ fun hH0 => ?_
    refine Rel.tk (v := ?_) 0 ?_ ?_
    rotate_left
    · (intro W hSw; (try dsimp only at hSw); go_simp; try with_reducible rfl)
    try simp only [Act.put, List.setIfInBounds_toArray, List.set_cons_zero, List.set_cons_succ]
    refine Rel.tk (v := ?_) 1 ?_ ?_
    rotate_left
    · (intro W hSw; (try dsimp only at hSw); go_simp; try with_reducible rfl)
    try simp only [Act.put, List.setIfInBounds_toArray, List.set_cons_zero, List.set_cons_succ]
    refine Rel.tk (v := ?_) 2 ?_ ?_
    rotate_left
    · (intro W hSw; (try dsimp only at hSw); go_simp; try with_reducible rfl)
    try simp only [Act.put, List.setIfInBounds_toArray, List.set_cons_zero, List.set_cons_succ]
    refine Rel.tk (v := ?_) 3 ?_ ?_
    rotate_left
    · (intro W hSw; (try dsimp only at hSw); go_simp; try with_reducible rfl)
    try simp only [Act.put, List.setIfInBounds_toArray, List.set_cons_zero, List.set_cons_succ]
    refine Rel.tk (v := ?_) 4 ?_ ?_
    rotate_left
    · (intro W hSw; (try dsimp only at hSw); go_simp; try with_reducible rfl)
    try simp only [Act.put, List.setIfInBounds_toArray, List.set_cons_zero, List.set_cons_succ]
    refine Rel.tk (v := ?_) 5 ?_ ?_
    rotate_left
    · (intro W hSw; (try dsimp only at hSw); go_simp; try with_reducible rfl)
    try simp only [Act.put, List.setIfInBounds_toArray, List.set_cons_zero, List.set_cons_succ]
    refine Rel.tk (v := ?_) 6 ?_ ?_
    rotate_left
    · (intro W hSw; (try dsimp only at hSw); go_simp; try with_reducible rfl)
    try simp only [Act.put, List.setIfInBounds_toArray, List.set_cons_zero, List.set_cons_succ]
    refine Rel.tk (v := ?_) 7 ?_ ?_
    rotate_left
    · (intro W hSw; (try dsimp only at hSw); go_simp; try with_reducible rfl)
    try simp only [Act.put, List.setIfInBounds_toArray, List.set_cons_zero, List.set_cons_succ]
    refine Rel.tk (v := ?_) 8 ?_ ?_
    rotate_left
    · (intro W hSw; (try dsimp only at hSw); go_simp; try with_reducible rfl)
    try simp only [Act.put, List.setIfInBounds_toArray, List.set_cons_zero, List.set_cons_succ]
    refine Rel.tk (v := ?_) 9 ?_ ?_
    rotate_left
    · (intro W hSw; (try dsimp only at hSw); go_simp; try with_reducible rfl)
    try simp only [Act.put, List.setIfInBounds_toArray, List.set_cons_zero, List.set_cons_succ]
    refine Rel.tk (v := ?_) 10 ?_ ?_
    rotate_left
    · (intro W hSw; (try dsimp only at hSw); go_simp; try with_reducible rfl)
    try simp only [Act.put, List.setIfInBounds_toArray, List.set_cons_zero, List.set_cons_succ]
    refine Rel.tk (v := ?_) 11 ?_ ?_
    rotate_left
    · (intro W hSw; (try dsimp only at hSw); go_simp; try with_reducible rfl)
    try simp only [Act.put, List.setIfInBounds_toArray, List.set_cons_zero, List.set_cons_succ]
    refine Rel.heldNext 12 rfl (by kernel_rfl) fun K hK => ?_
    go_simp
    refine (cP w4).mono ?_
    rintro e w5 ⟨rfl, rfl⟩
    refine hK.out _ _ ⟨D4.blk.cell (j := 0) rfl, D4.blk.cell (j := 4) rfl⟩ (fun hH1 => ?_)
    clear hK K
    try simp only [Act.put, List.setIfInBounds_toArray, List.set_cons_zero, List.set_cons_succ]
    refine Rel.heldLast 13 rfl (by kernel_rfl) rfl (by kernel_rfl) fun K hK => ?_
    go_simp
    refine hK.out _ _ ?_
    clear hK K hH0 hH1
    go_wp2
    exact bodyPost_ret (v := .int .i64 y) (by simp [results, Tryz.results85, go_sem]) rfl (hret _ hb4)
end Go.Proofs.YtalmgeefkcebdaaGreatDoor

/- Exhaustive search: the count at a variable. -/
namespace Go.Proofs.YtalmgeefkcebdaaGreatDoor
open Go.ChangeShapes Go.WideShapes Go.ChangeAt Go.RowKit

namespace Rel
section
variable {P : Program} {Q : Exit → Act → World → Prop} {S : World → Prop} {z : Nat}
/-- An operation that is not wanted. -/
theorem heldSkip (i : Nat) {l : List Oper} {oi : Oper} {fuel : Nat} {listed : Array Bool} {a : Act} {w : World} (hi : nth l i = some oi)
    (hs : (Region.noSelect l.toArray && waitsAll l.toArray z && doneB l.toArray listed) = true) (hf : Region.free .any l.toArray listed i = true) (hr : (Region.ready .any l.toArray listed).contains i = true)
    (hQ : ∀ c a w, Q (.panic c) (a.put oi.dst undef) w → Q (.panic c) a w) (hS : S w) (hw : Region.wanted oi (yielded l.toArray a.tmps) = false)
    (h : wpAnyL P .any l.toArray Q S z fuel (listed.setIfInBounds i true) (a.put oi.dst undef) w) : wpAnyL P .any l.toArray Q S z (fuel + 1) listed a w := by
  have hi' : l.toArray[i]? = some oi := by rw [← nth_eq]; exact hi
  rw [Bool.and_eq_true, Bool.and_eq_true] at hs
  exact wpAnyL_first hi' (Region.noSelect_spec hs.1.1) hs.1.2 hQ fuel listed a w (doneB_spec hs.2) (Region.free_spec hi' hf) (by simpa using hr) (.inr ⟨hw, rfl⟩) hS h
end
end Rel
/-- The roots found so far. -/
def QR (p : Int) (es : List Eq3) (x r : Nat) : Prop := match es.findIdx? quadE with
  | none => r = 0
  | some j => Roots p (es.getD j default) x r
theorem QR.zero (p : Int) (es : List Eq3) : QR p es 0 0 := by
  unfold QR
  split
  · rfl
  · exact Roots.zero _ _

set_option maxRecDepth 10000 in
set_option maxHeartbeats 16000000 in
theorem countStep_any {w0 w : World} {q p V last gi gr gw : Nat} {IL : List Int} {R : List Row3} {Wl : List Int} (D : SS w0 w q p V last gi gr gw IL R Wl) (hA : AllW Wl) (hVl : Wl.length = V) (hV : V ≤ 65536) (hv : vld (p : Int) = true) (h257 : p ≤ 257) (hR : ∀ r ∈ R, RowOk p V r) (hn : R.length ≤ 1000000) (hI : InvL p p IL) (hIl : IL.length = p) (v : Nat) (most : Int) (h0 : 0 < v) (hvV : v < V) (hvl : v ≤ last) (hm : 0 < most ∧ most ≤ 9223372036854775807)
    (ih : ∀ W Wl2 (m : Int), SS w0 W q p V last gi gr gw IL R Wl2 → AllW Wl2 → Wl2.length = V → 0 ≤ m → m ≤ most → Calls Tryz.prog 85 #[.pointer (some ⟨q, 0, none⟩), .int .i64 ((v + 1 : Nat) : Int), .int .i64 m] W (RetCnt w0 W q p V last gi gr gw IL R Wl2 (v + 1) m)) :
    Calls Tryz.prog 85 #[.pointer (some ⟨q, 0, none⟩), .int .i64 v, .int .i64 most] w (RetCnt w0 w q p V last gi gr gw IL R Wl v most) := by
  have hp := vld_pos hv
  have cE := equations_any D hA hVl v hv hR hvV hn
  change Calls _ _ _ _ (fun en w' => ∃ g, en = .returned (.slice (some ⟨g, 0, none⟩) (esV p R Wl v).length (esV p R Wl v).length) ∧ OwnG eqL w' w.heap.size 224 (.slice (some ⟨g, 0, none⟩) (esV p R Wl v).length (esV p R Wl v).length) (esV p R Wl v) ∧ Below w.heap.size w w') at cE
  have hes := hide (esV_bd (V := V) (Wl := Wl) (v := v) hv hR)
  have hel : (esV p R Wl v).length ≤ 1000000 := by
    unfold esV rowsAt
    rw [List.length_map]
    exact Nat.le_trans (List.length_filter_le _ _) hn
  have hcnt := hide (cnt_at (Wl := Wl) hv hR h0 (by omega) hvV)
  have hlin := fun e y he hq hs hy => gV_lin (V := V) (Wl := Wl) (e := e) (y := y) (v := v) (R := R) hv hI he hq hs hy
  have hquad := fun e a b x he hb hq hab hbx ha hb2 => gV_quad (V := V) (Wl := Wl) (e := e) (a := a) (b := b) (x := x) (v := v) (R := R) hv hb he hq hab hbx ha hb2
  have hlt' : ¬ (last : Int) < v := by omega
  have hm0 : (most == 0) = false := by rw [beq_eq_false_iff_ne]; omega
  have k3 := D.blk.cell (j := 3) rfl
  obtain ⟨hm1, hm2⟩ := hm
  obtain ⟨es, he⟩ : ∃ es, es = esV p R Wl v := ⟨_, rfl⟩
  obtain ⟨n, hnl⟩ : ∃ n, n = es.length := ⟨_, rfl⟩
  rw [← he] at cE hes hel hlin hquad
  rw [← hnl] at cE hel
  have hnI : (n : Int) ≤ 1000000 := by omega
  replace he := hide he
  replace hnl := hide hnl
  replace hlin := hide hlin
  replace hquad := hide hquad
  replace hI := hide hI
  clear hR hn
  go_enter Tryz.func85, Tryz.ntmps85
  go_wp2_with fail
  refine cE.mono ?_
  rintro en w2 ⟨g, rfl, ow, hB⟩
  have D2 := D.mono hB
  clear cE k3
  go_wp2_with fail
  go_loopw [8, 46] (fun t8 t46 wr => ∃ i : Nat, i ≤ n ∧ t8 = .int .i64 0 ∧ t46 = .int .i64 i ∧ Below w2.heap.size w2 wr) (fun _ t46 _ => n - (intOf t46).toNat)
  case atStart => exact ⟨0, Nat.zero_le _, rfl, rfl, Below.refl _ _⟩
  case round =>
    obtain ⟨i, hi, rfl, rfl, hb⟩ := hrel
    by_cases hlt : i < n
    · have hltI : (i : Int) < n := by omega
      have hi0 : (0 : Int) ≤ i := by omega
      have hiE : i < es.length := by have := hnl.out; omega
      obtain ⟨b, off, e0, _, c0, c1, c2, c3, c4, c5⟩ := eq_cells (ow.mono hb).slE hiE
      cases e0
      have hmem := getD_mem' hiE default
      have heb := hes.out _ hmem
      have hmem' := hide hmem
      have cL := fun W => linear_any p (es.getD i default) W ⟨by omega, by omega⟩ heb
      obtain ⟨e, hee⟩ : ∃ e, e = es.getD i default := ⟨_, rfl⟩
      rw [← hee] at c0 c1 c2 c3 c4 c5 cL heb hmem'
      replace hee := hide hee
      rw [Nat.zero_add] at c0 c1 c2 c3 c4 c5
      clear hmem
      go_wp2_with fail
      refine name_world fun w3 hN => ?_
      have gT : Blk w3 wr.heap.size #[.int .u64 e.a.b, .int .u64 e.a.s, .int .u64 e.b.b, .int .u64 e.b.s, .int .u64 e.c.b, .int .u64 e.c.s] 224 := by rw [hN]; exact Blk.newAt rfl
      have hb3 : Below wr.heap.size wr w3 := by rw [hN]; exact (Below.refl _ _).alloc (Nat.le_refl _) _
      replace hb := below2 hb hb3
      clear hN c0 c1 c2 c3 c4 c5 hb3
      refine Rel.region_any Tryz.mixed fun w4 hb4 => ?_
      replace gT := gT.mono hb4
      replace hb := below2 hb hb4
      have D4 := D2.mono hb
      clear hb4
      refine Rel.any_held (fun W => W.cell? ⟨wr.heap.size, 0, none⟩ = some (.int .u64 e.a.b) ∧ W.cell? ⟨wr.heap.size, 1, none⟩ = some (.int .u64 e.a.s) ∧ W.cell? ⟨wr.heap.size, 2, none⟩ = some (.int .u64 e.b.b) ∧ W.cell? ⟨wr.heap.size, 3, none⟩ = some (.int .u64 e.b.s) ∧ W.cell? ⟨wr.heap.size, 4, none⟩ = some (.int .u64 e.c.b) ∧ W.cell? ⟨wr.heap.size, 5, none⟩ = some (.int .u64 e.c.s) ∧ W.cell? ⟨q, 0, none⟩ = some (.int .u64 p)) 12 ⟨gT.cell (j := 0) rfl, gT.cell (j := 1) rfl, gT.cell (j := 2) rfl, gT.cell (j := 3) rfl, gT.cell (j := 4) rfl, gT.cell (j := 5) rfl, D4.blk.cell (j := 0) rfl⟩ fun hH0 => ?_
      refine Rel.tk (v := ?_) 0 ?_ ?_
      rotate_left
      · (intro W hSw; (try dsimp only at hSw); go_simp; try with_reducible rfl)
      try simp only [Act.put, List.setIfInBounds_toArray, List.set_cons_zero, List.set_cons_succ]
      refine Rel.tk (v := ?_) 1 ?_ ?_
      rotate_left
      · (intro W hSw; (try dsimp only at hSw); go_simp; try with_reducible rfl)
      try simp only [Act.put, List.setIfInBounds_toArray, List.set_cons_zero, List.set_cons_succ]
      refine Rel.tk (v := ?_) 2 ?_ ?_
      rotate_left
      · (intro W hSw; (try dsimp only at hSw); go_simp; try with_reducible rfl)
      try simp only [Act.put, List.setIfInBounds_toArray, List.set_cons_zero, List.set_cons_succ]
      refine Rel.tk (v := ?_) 3 ?_ ?_
      rotate_left
      · (intro W hSw; (try dsimp only at hSw); go_simp; try with_reducible rfl)
      try simp only [Act.put, List.setIfInBounds_toArray, List.set_cons_zero, List.set_cons_succ]
      refine Rel.tk (v := ?_) 4 ?_ ?_
      rotate_left
      · (intro W hSw; (try dsimp only at hSw); go_simp; try with_reducible rfl)
      try simp only [Act.put, List.setIfInBounds_toArray, List.set_cons_zero, List.set_cons_succ]
      refine Rel.heldNext 5 rfl (by kernel_rfl) fun K hK => ?_
      go_simp
      refine (cL w4).mono ?_
      rintro en w5 ⟨rfl, hb5⟩
      replace gT := gT.mono hb5
      replace hb := below2 hb hb5
      have D5 := D4.mono hb5
      clear hb5
      by_cases hlinear : quadE e = false ∧ (slopeE p e != 0) = true
      · obtain ⟨hq, hs⟩ := hlinear
        rw [hq, hs]
        refine hK.out _ _ ⟨gT.cell (j := 0) rfl, gT.cell (j := 1) rfl, gT.cell (j := 2) rfl, gT.cell (j := 3) rfl, gT.cell (j := 4) rfl, gT.cell (j := 5) rfl, D5.blk.cell (j := 0) rfl⟩ (fun hH1 => ?_)
        clear hK K
        try simp only [Act.put, List.setIfInBounds_toArray, List.set_cons_zero, List.set_cons_succ]
        have hsb : 0 ≤ slopeE p e ∧ slopeE p e < p := mod_lt' (show (0 : Int) < p by omega) _
        have hrb : 0 ≤ restE p e ∧ restE p e < p := mod_lt' (show (0 : Int) < p by omega) _
        have hfin := hlin.out e
        obtain ⟨s, hs'⟩ : ∃ s : Nat, slopeE p e = s := ⟨(slopeE p e).toNat, by omega⟩
        obtain ⟨rr, hrr⟩ : ∃ rr, restE p e = rr := ⟨_, rfl⟩
        rw [hs'] at hsb hfin hs
        rw [hrr] at hrb hfin
        rw [hs', hrr]
        rw [Int.toNat_natCast] at hfin
        have hivb := hI.out.bd s
        have ci := D5.inv.cell (j := s) (by omega)
        obtain ⟨iv, hiv⟩ : ∃ iv, IL.getD s 0 = iv := ⟨_, rfl⟩
        rw [hiv] at hivb ci hfin
        have hmul : 0 ≤ rr * iv ∧ rr * iv ≤ 66049 := ⟨Int.mul_nonneg hrb.1 hivb.1, (show rr * iv ≤ 257 * 257 from Int.mul_le_mul (by omega) (by omega) hivb.1 (by decide))⟩
        have hwm : IntKind.u64.wrap (rr * iv) = rr * iv := by rw [IntKind.wrap_u64]; omega
        have hyb := mod_lt' (show (0 : Int) < p by omega) (rr * iv)
        obtain ⟨y, hy⟩ : ∃ y : Nat, (y : Int) = rr * iv % p := ⟨(rr * iv % p).toNat, by omega⟩
        have htm : (rr * iv).tmod (p : Int) = (y : Int) := by rw [hy]; exact Int.tmod_eq_emod_of_nonneg hmul.1
        rw [← hy] at hyb
        have hsum := hide (hfin y hmem'.out hq hs hy)
        replace hs' := hide hs'
        replace hrr := hide hrr
        replace hiv := hide hiv
        replace hy := hide hy
        have hsI : (s : Int) < p := hsb.2
        have hsI0 : (0 : Int) ≤ s := hsb.1
        have hpn : ¬ p = 0 := by omega
        obtain ⟨hmul1, hmul2⟩ := hmul
        clear hfin hlin
        refine Rel.tk (v := ?_) 6 ?_ ?_
        rotate_left
        · (intro W hSw; (try dsimp only at hSw); go_simp; try with_reducible rfl)
        try simp only [Act.put, List.setIfInBounds_toArray, List.set_cons_zero, List.set_cons_succ]
        refine Rel.tk (v := ?_) 7 ?_ ?_
        rotate_left
        · (intro W hSw; (try dsimp only at hSw); go_simp; try with_reducible rfl)
        try simp only [Act.put, List.setIfInBounds_toArray, List.set_cons_zero, List.set_cons_succ]
        refine Rel.tk (v := ?_) 8 ?_ ?_
        rotate_left
        · (intro W hSw; (try dsimp only at hSw); go_simp; try with_reducible rfl)
        try simp only [Act.put, List.setIfInBounds_toArray, List.set_cons_zero, List.set_cons_succ]
        refine Rel.tk (v := ?_) 9 ?_ ?_
        rotate_left
        · (intro W hSw; (try dsimp only at hSw); go_simp; try with_reducible rfl)
        try simp only [Act.put, List.setIfInBounds_toArray, List.set_cons_zero, List.set_cons_succ]
        refine Rel.tk (v := ?_) 10 ?_ ?_
        rotate_left
        · (intro W hSw; (try dsimp only at hSw); go_simp; try with_reducible rfl)
        try simp only [Act.put, List.setIfInBounds_toArray, List.set_cons_zero, List.set_cons_succ]
        refine Rel.tk (v := ?_) 11 ?_ ?_
        rotate_left
        · (intro W hSw; (try dsimp only at hSw); go_simp; try with_reducible rfl)
        try simp only [Act.put, List.setIfInBounds_toArray, List.set_cons_zero, List.set_cons_succ]
        refine Rel.heldLast 12 rfl (by kernel_rfl) rfl (by kernel_rfl) fun K hK => ?_
        go_simp
        refine hK.out _ _ ?_
        clear hK K hH0 hH1
        go_wp2_with fail
        refine Rel.region_any Tryz.mixed fun w6 hb6 => ?_
        replace hb := below2 hb hb6
        have D6 := D5.mono hb6
        have ci6 := cell_below hb6 ci
        clear hb6
        refine Rel.any_held (fun W => W.cell? ⟨q, 0, none⟩ = some (.int .u64 p) ∧ W.cell? ⟨q, 1, none⟩ = some (.slice (some ⟨gi, 0, none⟩) p p) ∧ W.cell? ⟨gi, s, none⟩ = some (.int .u64 iv)) 14 ⟨D6.blk.cell (j := 0) rfl, D6.blk.cell (j := 1) rfl, ci6⟩ fun hH0 => ?_
        refine Rel.tk (v := ?_) 0 ?_ ?_
        rotate_left
        · (intro W hSw; (try dsimp only at hSw); go_simp; try with_reducible rfl)
        try simp only [Act.put, List.setIfInBounds_toArray, List.set_cons_zero, List.set_cons_succ]
        refine Rel.tk (v := ?_) 1 ?_ ?_
        rotate_left
        · (intro W hSw; (try dsimp only at hSw); go_simp; try with_reducible rfl)
        try simp only [Act.put, List.setIfInBounds_toArray, List.set_cons_zero, List.set_cons_succ]
        refine Rel.tk (v := ?_) 2 ?_ ?_
        rotate_left
        · (intro W hSw; (try dsimp only at hSw); go_simp; try with_reducible rfl)
        try simp only [Act.put, List.setIfInBounds_toArray, List.set_cons_zero, List.set_cons_succ]
        refine Rel.tk (v := ?_) 3 ?_ ?_
        rotate_left
        · (intro W hSw; (try dsimp only at hSw); go_simp; try with_reducible rfl)
        try simp only [Act.put, List.setIfInBounds_toArray, List.set_cons_zero, List.set_cons_succ]
        refine Rel.tk (v := ?_) 4 ?_ ?_
        rotate_left
        · (intro W hSw; (try dsimp only at hSw); go_simp; try with_reducible rfl)
        try simp only [Act.put, List.setIfInBounds_toArray, List.set_cons_zero, List.set_cons_succ]
        refine Rel.tk (v := ?_) 5 ?_ ?_
        rotate_left
        · (intro W hSw; (try dsimp only at hSw); go_simp; try with_reducible rfl)
        try simp only [Act.put, List.setIfInBounds_toArray, List.set_cons_zero, List.set_cons_succ]
        refine Rel.tk (v := ?_) 6 ?_ ?_
        rotate_left
        · (intro W hSw; (try dsimp only at hSw); go_simp; try with_reducible rfl)
        try simp only [Act.put, List.setIfInBounds_toArray, List.set_cons_zero, List.set_cons_succ]
        refine Rel.tk (v := ?_) 7 ?_ ?_
        rotate_left
        · (intro W hSw; (try dsimp only at hSw); go_simp; try with_reducible rfl)
        try simp only [Act.put, List.setIfInBounds_toArray, List.set_cons_zero, List.set_cons_succ]
        refine Rel.tk (v := ?_) 8 ?_ ?_
        rotate_left
        · (intro W hSw; (try dsimp only at hSw); go_simp; try with_reducible rfl)
        try simp only [Act.put, List.setIfInBounds_toArray, List.set_cons_zero, List.set_cons_succ]
        refine Rel.tk (v := ?_) 9 ?_ ?_
        rotate_left
        · (intro W hSw; (try dsimp only at hSw); go_simp; try with_reducible rfl)
        try simp only [Act.put, List.setIfInBounds_toArray, List.set_cons_zero, List.set_cons_succ]
        refine Rel.tk (v := ?_) 10 ?_ ?_
        rotate_left
        · (intro W hSw; (try dsimp only at hSw); go_simp; try with_reducible rfl)
        try simp only [Act.put, List.setIfInBounds_toArray, List.set_cons_zero, List.set_cons_succ]
        refine Rel.tk (v := ?_) 11 ?_ ?_
        rotate_left
        · (intro W hSw; (try dsimp only at hSw); go_simp; try with_reducible rfl)
        try simp only [Act.put, List.setIfInBounds_toArray, List.set_cons_zero, List.set_cons_succ]
        refine Rel.tk (v := ?_) 12 ?_ ?_
        rotate_left
        · (intro W hSw; (try dsimp only at hSw); go_simp; try with_reducible rfl)
        try simp only [Act.put, List.setIfInBounds_toArray, List.set_cons_zero, List.set_cons_succ]
        refine Rel.tk (v := ?_) 13 ?_ ?_
        rotate_left
        · (intro W hSw; (try dsimp only at hSw); go_simp; try with_reducible rfl)
        try simp only [Act.put, List.setIfInBounds_toArray, List.set_cons_zero, List.set_cons_succ]
        refine Rel.heldLast 14 rfl (by kernel_rfl) rfl (by kernel_rfl) fun K hK => ?_
        go_simp
        refine hK.out _ _ ?_
        clear hK K hH0
        have hslE := ((ow.mono hb).slE)
        have cAH := fun W (h : SlG eqL W (some ⟨g, 0, none⟩) es) => allHold_any p y (some ⟨g, 0, none⟩) n es W ⟨by omega, by omega⟩ h hes.out ⟨by omega, by omega⟩ (by rw [← hnl.out]; exact hel)
        rw [← hnl.out] at cAH
        have d60 := D6.blk.cell (j := 0) rfl
        clear hmul1 hmul2 hwm htm ci ci6
        go_wp2_with fail
        refine (cAH _ hslE).mono ?_
        rintro en w7 ⟨rfl, hb7⟩
        have D7 := D6.mono hb7
        replace hb := below2 hb hb7
        have hrs : cnt p R (V - v) (Wl.take v) = gV p R V v Wl y := by rw [hcnt.out, hsum.out]
        unfold gV at hrs
        rw [← he.out] at hrs
        have hvI : (v : Int) < V := by omega
        have hvI0 : (0 : Int) ≤ v := by omega
        by_cases hall : es.all (holdsE p (y : Int)) = true
        · rw [if_pos hall] at hrs
          rw [hall]
          have hset : (Wl.set v (y : Int)).take (v + 1) = Wl.take v ++ [(y : Int)] := by
            rw [take_succ_getD _ 0 (by rw [List.length_set]; omega), List.take_set_of_le (Nat.le_refl _), List.getD_eq_getElem?_getD, List.getElem?_set_self (by omega)]
            rfl
          obtain ⟨D8, k8⟩ := D7.setW v (y : Int)
          have cI := ih _ _ most D8 (fun x hx => by
            rcases List.mem_or_eq_of_mem_set hx with hx | hx
            · exact hA x hx
            · subst hx; omega) (by rw [List.length_set]; exact hVl) (by omega) (Int.le_refl _)
          have hwI : IntKind.i64.wrap ((v : Int) + 1) = ((v + 1 : Nat) : Int) := by rw [IntKind.wrap_i64]; omega
          have q4 := D7.blk.cell (j := 4) rfl
          have ff := D7.ow.free v
          have cc := D7.ow.cell (j := v) (by omega)
          have hK0 : KW gw w0.heap.size w (w7.setCell ⟨gw, v, none⟩ (.int .u64 y)) := (KW.of_below (below2 hB hb) D.below.size).trans k8
          replace hrs := hide hrs
          replace hset := hide hset
          clear ih d60
          go_wp2_with fail
          refine cI.mono ?_
          rintro en w9 ⟨rfl, Wl', D9, hA9, hl9, ht9, k9⟩
          have hfinal : RetCnt w0 w q p V last gi gr gw IL R Wl v most (.returned (.int .i64 (min most (cnt p R (V - (v + 1)) ((Wl.set v (y : Int)).take (v + 1)) : Int)))) w9 := ⟨by rw [hrs.out, hset.out], Wl', D9, hA9, hl9, by
            have := congrArg (List.take v) (ht9.trans hset.out)
            rw [List.take_take, Nat.min_eq_left (by omega), List.take_append_of_le_length (by rw [List.length_take]; omega), List.take_take, Nat.min_self] at this
            exact this, hK0.trans k9⟩
          generalize min most (cnt p R (V - (v + 1)) ((Wl.set v (y : Int)).take (v + 1)) : Int) = z at *
          go_wp2
          exact bodyPost_ret (v := .int .i64 z) (by simp [results, Tryz.results85, go_sem]) rfl hfinal
        · rw [if_neg hall] at hrs
          have hall2 : es.all (holdsE p (y : Int)) = false := by simpa using hall
          rw [hall2]
          have hfinal : RetCnt w0 w q p V last gi gr gw IL R Wl v most (.returned (.int .i64 0)) w7 := ⟨by rw [hrs, show min most ((0 : Nat) : Int) = 0 by omega], Wl, D7, hA, hVl, rfl, KW.of_below (below2 hB hb) D.below.size⟩
          go_wp2
          exact bodyPost_ret (v := .int .i64 0) (by simp [results, Tryz.results85, go_sem]) rfl hfinal
      · obtain ⟨a1, a2, hres⟩ : ∃ a1 a2, (if quadE e = true then Value.tuple #[.int .u64 0, .int .u64 0, .bool false] else .tuple #[.int .u64 (slopeE p e), .int .u64 (restE p e), .bool (slopeE p e != 0)]) = .tuple #[.int .u64 a1, .int .u64 a2, .bool false] := by
          cases hq : quadE e with
          | true => exact ⟨0, 0, rfl⟩
          | false =>
            have : (slopeE p e != 0) = false := by
              cases hs : (slopeE p e != 0) with
              | true => exact absurd ⟨hq, hs⟩ hlinear
              | false => rfl
            rw [this]
            exact ⟨_, _, rfl⟩
        rw [hres]
        clear hres hlinear
        refine hK.out _ _ ⟨gT.cell (j := 0) rfl, gT.cell (j := 1) rfl, gT.cell (j := 2) rfl, gT.cell (j := 3) rfl, gT.cell (j := 4) rfl, gT.cell (j := 5) rfl, D5.blk.cell (j := 0) rfl⟩ (fun hH1 => ?_)
        clear hK K
        try simp only [Act.put, List.setIfInBounds_toArray, List.set_cons_zero, List.set_cons_succ]
        refine Rel.tk (v := ?_) 6 ?_ ?_
        rotate_left
        · (intro W hSw; (try dsimp only at hSw); go_simp; try with_reducible rfl)
        try simp only [Act.put, List.setIfInBounds_toArray, List.set_cons_zero, List.set_cons_succ]
        refine Rel.tk (v := ?_) 7 ?_ ?_
        rotate_left
        · (intro W hSw; (try dsimp only at hSw); go_simp; try with_reducible rfl)
        try simp only [Act.put, List.setIfInBounds_toArray, List.set_cons_zero, List.set_cons_succ]
        refine Rel.tk (v := ?_) 8 ?_ ?_
        rotate_left
        · (intro W hSw; (try dsimp only at hSw); go_simp; try with_reducible rfl)
        try simp only [Act.put, List.setIfInBounds_toArray, List.set_cons_zero, List.set_cons_succ]
        refine Rel.tk (v := ?_) 9 ?_ ?_
        rotate_left
        · (intro W hSw; (try dsimp only at hSw); go_simp; try with_reducible rfl)
        try simp only [Act.put, List.setIfInBounds_toArray, List.set_cons_zero, List.set_cons_succ]
        refine Rel.tk (v := ?_) 10 ?_ ?_
        rotate_left
        · (intro W hSw; (try dsimp only at hSw); go_simp; try with_reducible rfl)
        try simp only [Act.put, List.setIfInBounds_toArray, List.set_cons_zero, List.set_cons_succ]
        refine Rel.tk (v := ?_) 11 ?_ ?_
        rotate_left
        · (intro W hSw; (try dsimp only at hSw); go_simp; try with_reducible rfl)
        try simp only [Act.put, List.setIfInBounds_toArray, List.set_cons_zero, List.set_cons_succ]
        refine Rel.heldLast 12 rfl (by kernel_rfl) rfl (by kernel_rfl) fun K hK => ?_
        go_simp
        refine hK.out _ _ ?_
        clear hK K hH0 hH1
        go_wp2
        go_roundw
        case rel => exact ⟨i + 1, by omega, rfl, by go_num, hb⟩
        case measure => simp [intOf]; omega
    · obtain rfl : i = n := by omega
      have cIF := fun W (h : Below w2.heap.size w2 W) => IndexFunc_any (some ⟨g, 0, none⟩) i es W (ow.mono h).slE (by rw [← hnl.out]; exact hel)
      rw [← hnl.out] at cIF
      go_wp2_with fail
      refine (cIF wr hb).mono ?_
      rintro en w3 ⟨rfl, hb3⟩
      replace hb := below2 hb hb3
      clear hb3 cIF
      have D3 := D2.mono hb
      go_wp2_with fail
      go_loopw [8, 15, 17] (fun t8 t15 t17 wx => ∃ (x r : Nat) (Wl1 : List Int), x ≤ p ∧ r ≤ 2 ∧ t8 = .int .i64 (min most (sumN x (gV p R V v Wl) : Int)) ∧ t15 = .int .i64 r ∧ t17 = .int .u64 x ∧ SS w0 wx q p V last gi gr gw IL R Wl1 ∧ AllW Wl1 ∧ Hid (Wl1.length = V) ∧ Hid (Wl1.take v = Wl.take v) ∧ KW gw w0.heap.size w wx ∧ KW gw w0.heap.size w3 wx ∧ Hid (QR p es x r)) (fun _ _ t17 _ => p - (intOf t17).toNat)
      case atStart => exact ⟨0, 0, Wl, by omega, by omega, by rw [sumN, show min most ((0 : Nat) : Int) = 0 by omega], rfl, rfl, D3, hA, hide hVl, hide rfl, KW.of_below (below2 hB hb) D.below.size, KW.refl _ _ _, hide (QR.zero _ _)⟩
      case round =>
        obtain ⟨x, r, Wl1, hx, hr, rfl, rfl, rfl, Dx, hAx, hlx, htx, kx, k3, hqr⟩ := hrel
        obtain ⟨cur, hcur⟩ : ∃ cur : Int, cur = min most (sumN x (gV p R V v Wl) : Int) := ⟨_, rfl⟩
        have hcb : 0 ≤ cur ∧ cur ≤ most := by omega
        have hmono := sumN_mono (gV p R V v Wl) hx
        have hret : cur = min most (sumN p (gV p R V v Wl) : Int) → RetCnt w0 w q p V last gi gr gw IL R Wl v most (.returned (.int .i64 cur)) wr := fun h => ⟨by rw [h, hcnt.out], Wl1, Dx, hAx, hlx.out, htx.out, kx⟩
        have hend : r = 2 → sumN p (gV p R V v Wl) = sumN x (gV p R V v Wl) := fun h2 => by
          subst h2
          have h3 := hqr.out
          unfold QR at h3
          split at h3
          · omega
          · rename_i j hj
            obtain ⟨hjl, hjq, _⟩ := List.findIdx?_eq_some_iff_getElem.1 hj
            obtain ⟨a, b, h4, h5, h6, h7⟩ := h3.2.2 (by omega)
            have hg : es.getD j default = es[j] := by rw [List.getD_eq_getElem?_getD, List.getElem?_eq_getElem hjl]; rfl
            have hmem := getD_mem' hjl default
            exact sumN_rest hx (hquad.out _ a b x hmem (hes.out _ hmem) (by rw [hg]; exact hjq) h4 h5 h6 h7)
        rw [← hcur]
        replace hcur := hide hcur
        have q0 := Dx.blk.cell (j := 0) rfl
        have hx0 : (0 : Int) ≤ x := by omega
        by_cases hxp : x < p
        · have hxpI : (x : Int) < p := by omega
          by_cases hcm : cur < most
          · by_cases hr2 : r < 2
            · have hr2I : (r : Int) < 2 := by omega
              go_wp2_with fail
              refine Rel.region_any Tryz.mixed fun w6 hb6 => ?_
              have D6 := Dx.mono hb6
              have owx := k3.own (by unfold XU8; decide) (ow.mono hb)
              cases hqi : es.findIdx? quadE with
              | none =>
                have hqI : quadI es = -1 := by unfold quadI; rw [hqi]
                rw [hqI]
                refine Rel.any_held (fun W => W.cell? ⟨q, 0, none⟩ = some (.int .u64 p)) 13 (D6.blk.cell (j := 0) rfl) fun hH0 => ?_
                refine Rel.tk (v := ?_) 0 ?_ ?_
                rotate_left
                · (intro W hSw; (try dsimp only at hSw); go_simp; try with_reducible rfl)
                try simp only [Act.put, List.setIfInBounds_toArray, List.set_cons_zero, List.set_cons_succ]
                refine Rel.tk (v := ?_) 1 ?_ ?_
                rotate_left
                · (intro W hSw; (try dsimp only at hSw); go_simp; try with_reducible rfl)
                try simp only [Act.put, List.setIfInBounds_toArray, List.set_cons_zero, List.set_cons_succ]
                refine Rel.tk (v := ?_) 2 ?_ ?_
                rotate_left
                · (intro W hSw; (try dsimp only at hSw); go_simp; try with_reducible rfl)
                try simp only [Act.put, List.setIfInBounds_toArray, List.set_cons_zero, List.set_cons_succ]
                refine Rel.heldSkip 3 rfl (by kernel_rfl) (by kernel_rfl) (by kernel_rfl) (fun _ _ _ h => h) (by assumption) (by rfl) ?_
                try simp only [Act.put, List.setIfInBounds_toArray, List.set_cons_zero, List.set_cons_succ]
                refine Rel.heldSkip 4 rfl (by kernel_rfl) (by kernel_rfl) (by kernel_rfl) (fun _ _ _ h => h) (by assumption) (by rfl) ?_
                try simp only [Act.put, List.setIfInBounds_toArray, List.set_cons_zero, List.set_cons_succ]
                refine Rel.heldSkip 5 rfl (by kernel_rfl) (by kernel_rfl) (by kernel_rfl) (fun _ _ _ h => h) (by assumption) (by rfl) ?_
                try simp only [Act.put, List.setIfInBounds_toArray, List.set_cons_zero, List.set_cons_succ]
                refine Rel.heldSkip 6 rfl (by kernel_rfl) (by kernel_rfl) (by kernel_rfl) (fun _ _ _ h => h) (by assumption) (by rfl) ?_
                try simp only [Act.put, List.setIfInBounds_toArray, List.set_cons_zero, List.set_cons_succ]
                refine Rel.heldSkip 7 rfl (by kernel_rfl) (by kernel_rfl) (by kernel_rfl) (fun _ _ _ h => h) (by assumption) (by rfl) ?_
                try simp only [Act.put, List.setIfInBounds_toArray, List.set_cons_zero, List.set_cons_succ]
                refine Rel.heldSkip 8 rfl (by kernel_rfl) (by kernel_rfl) (by kernel_rfl) (fun _ _ _ h => h) (by assumption) (by rfl) ?_
                try simp only [Act.put, List.setIfInBounds_toArray, List.set_cons_zero, List.set_cons_succ]
                refine Rel.heldSkip 9 rfl (by kernel_rfl) (by kernel_rfl) (by kernel_rfl) (fun _ _ _ h => h) (by assumption) (by rfl) ?_
                try simp only [Act.put, List.setIfInBounds_toArray, List.set_cons_zero, List.set_cons_succ]
                refine Rel.heldSkip 10 rfl (by kernel_rfl) (by kernel_rfl) (by kernel_rfl) (fun _ _ _ h => h) (by assumption) (by rfl) ?_
                try simp only [Act.put, List.setIfInBounds_toArray, List.set_cons_zero, List.set_cons_succ]
                refine Rel.heldSkip 11 rfl (by kernel_rfl) (by kernel_rfl) (by kernel_rfl) (fun _ _ _ h => h) (by assumption) (by rfl) ?_
                try simp only [Act.put, List.setIfInBounds_toArray, List.set_cons_zero, List.set_cons_succ]
                refine Rel.heldSkip 12 rfl (by kernel_rfl) (by kernel_rfl) (by kernel_rfl) (fun _ _ _ h => h) (by assumption) (by rfl) ?_
                try simp only [Act.put, List.setIfInBounds_toArray, List.set_cons_zero, List.set_cons_succ]
                refine Rel.heldLast 13 rfl (by kernel_rfl) rfl (by kernel_rfl) fun K hK => ?_
                go_simp
                refine hK.out _ _ ?_
                clear hK K hH0
                have hsl := (owx.mono hb6).slE
                have cAH := fun W (h : SlG eqL W (some ⟨g, 0, none⟩) es) => allHold_any p x (some ⟨g, 0, none⟩) i es W ⟨by omega, by omega⟩ h hes.out ⟨by omega, by omega⟩ (by rw [← hnl.out]; exact hel)
                rw [← hnl.out] at cAH
                have d0 := (D6).blk.cell (j := 0) rfl
                have hvI : (v : Int) < V := by omega
                have hvI0 : (0 : Int) ≤ v := by omega
                have hgx : gV p R V v Wl x = if es.all (holdsE p (x : Int)) = true then cnt p R (V - (v + 1)) (Wl.take v ++ [(x : Int)]) else 0 := by unfold gV; rw [← he.out]
                have hqn : Hid (QR p es (x + 1) (r)) := hide (by have := hqr.out; unfold QR at this ⊢; rw [hqi] at this ⊢; exact this)
                go_wp2_with fail
                refine (cAH _ hsl).mono ?_
                rintro en w8 ⟨rfl, hb8⟩
                have D8 := (D6).mono hb8
                have kx8 : KW gw w0.heap.size wr w8 := KW.of_below (below2 hb6 hb8) Dx.below.size
                by_cases hall : es.all (holdsE p (x : Int)) = true
                · rw [if_pos hall] at hgx
                  rw [hall]
                  have hlx1 := hlx.out
                  have hset : (Wl1.set v (x : Int)).take (v + 1) = Wl.take v ++ [(x : Int)] := by
                    rw [take_succ_getD _ 0 (by rw [List.length_set]; omega), List.take_set_of_le (Nat.le_refl _), List.getD_eq_getElem?_getD, List.getElem?_set_self (by omega), htx.out]
                    rfl
                  obtain ⟨D9, k9⟩ := D8.setW v (x : Int)
                  have cI := ih _ _ (most - cur) D9 (fun u hu => by
                    rcases List.mem_or_eq_of_mem_set hu with hu | hu
                    · exact hAx u hu
                    · subst hu; omega) (by rw [List.length_set]; exact hlx1) (by omega) (by omega)
                  have hwI : IntKind.i64.wrap ((v : Int) + 1) = ((v + 1 : Nat) : Int) := by rw [IntKind.wrap_i64]; omega
                  have hwS : IntKind.i64.wrap (most - cur) = most - cur := by rw [IntKind.wrap_i64]; omega
                  have q4 := D8.blk.cell (j := 4) rfl
                  have ff := D8.ow.free v
                  have cc := D8.ow.cell (j := v) (by omega)
                  have k89 := kx8.trans k9
                  replace hset := hide hset
                  replace hgx := hide hgx
                  clear d0 cAH
                  go_wp2_with fail
                  refine cI.mono ?_
                  rintro en wz ⟨rfl, Wl', Dz, hAz, hlz, htz, kz⟩
                  rw [hset.out, ← hgx.out]
                  obtain ⟨z, hz⟩ : ∃ z : Int, z = min (most - cur) (gV p R V v Wl x : Int) := ⟨_, rfl⟩
                  rw [← hz]
                  have hsn : cur + z = min most (sumN (x + 1) (gV p R V v Wl) : Int) := by rw [sumN, hz, hcur.out]; omega
                  have hwz : IntKind.i64.wrap (cur + z) = cur + z := by rw [IntKind.wrap_i64]; omega
                  have htk : Wl'.take v = Wl.take v := by
                    have := congrArg (List.take v) (htz.trans hset.out)
                    rw [List.take_take, Nat.min_eq_left (by omega), List.take_append_of_le_length (by rw [List.length_take]; omega), List.take_take, Nat.min_self] at this
                    exact this
                  replace hz := hide hz
                  go_wp2
                  rw [← hqI]
                  go_roundw
                  case rel => exact ⟨x + 1, r, Wl', by omega, by omega, rfl, by go_num, by go_num, Dz, hAz, hide hlz, hide htk, kx.trans (k89.trans kz), k3.trans (k89.trans kz), hqn⟩
                  case measure => simp [intOf]; omega
                · rw [if_neg hall] at hgx
                  have hall2 : es.all (holdsE p (x : Int)) = false := by simpa using hall
                  rw [hall2]
                  have hsn : cur = min most (sumN (x + 1) (gV p R V v Wl) : Int) := by rw [sumN, hgx, hcur.out, Nat.add_zero]
                  clear cAH
                  go_wp2
                  rw [← hqI]
                  go_roundw
                  case rel => exact ⟨x + 1, r, Wl1, by omega, by omega, by rw [← hsn], by go_num, by go_num, D8, hAx, hlx, htx, kx.trans kx8, k3.trans kx8, hqn⟩
                  case measure => simp [intOf]; omega
              | some j =>
                have hqI : quadI es = (j : Int) := by unfold quadI; rw [hqi]
                rw [hqI]
                have hj0 : (0 : Int) ≤ j := by omega
                obtain ⟨hjl, hjq, _⟩ := List.findIdx?_eq_some_iff_getElem.1 hqi
                have hjI : (j : Int) < i := by have := hnl.out; omega
                obtain ⟨b, off, e0, _, c0, c1, c2, c3, c4, c5⟩ := eq_cells (owx.mono hb6).slE hjl
                cases e0
                have hej := hes.out _ (getD_mem' hjl default)
                obtain ⟨e, hee⟩ : ∃ e, e = es.getD j default := ⟨_, rfl⟩
                rw [← hee] at c0 c1 c2 c3 c4 c5 hej
                rw [Nat.zero_add] at c0 c1 c2 c3 c4 c5
                replace hee := hide hee
                have cH := fun W => holds_any p x e W ⟨by omega, by omega⟩ hej ⟨by omega, by omega⟩
                refine Rel.any_held (fun W => W.cell? ⟨q, 0, none⟩ = some (.int .u64 p) ∧ W.cell? ⟨g, j * 6, none⟩ = some (.int .u64 e.a.b) ∧ W.cell? ⟨g, j * 6 + 1, none⟩ = some (.int .u64 e.a.s) ∧ W.cell? ⟨g, j * 6 + 2, none⟩ = some (.int .u64 e.b.b) ∧ W.cell? ⟨g, j * 6 + 3, none⟩ = some (.int .u64 e.b.s) ∧ W.cell? ⟨g, j * 6 + 4, none⟩ = some (.int .u64 e.c.b) ∧ W.cell? ⟨g, j * 6 + 5, none⟩ = some (.int .u64 e.c.s)) 13 ⟨D6.blk.cell (j := 0) rfl, c0, c1, c2, c3, c4, c5⟩ fun hH0 => ?_
                refine Rel.tk (v := ?_) 0 ?_ ?_
                rotate_left
                · (intro W hSw; (try dsimp only at hSw); go_simp; try with_reducible rfl)
                try simp only [Act.put, List.setIfInBounds_toArray, List.set_cons_zero, List.set_cons_succ]
                refine Rel.tk (v := ?_) 1 ?_ ?_
                rotate_left
                · (intro W hSw; (try dsimp only at hSw); go_simp; try with_reducible rfl)
                try simp only [Act.put, List.setIfInBounds_toArray, List.set_cons_zero, List.set_cons_succ]
                refine Rel.tk (v := ?_) 2 ?_ ?_
                rotate_left
                · (intro W hSw; (try dsimp only at hSw); go_simp; try with_reducible rfl)
                try simp only [Act.put, List.setIfInBounds_toArray, List.set_cons_zero, List.set_cons_succ]
                refine Rel.tk (v := ?_) 3 ?_ ?_
                rotate_left
                · (intro W hSw; (try dsimp only at hSw); go_simp; try with_reducible rfl)
                try simp only [Act.put, List.setIfInBounds_toArray, List.set_cons_zero, List.set_cons_succ]
                refine Rel.tk (v := ?_) 4 ?_ ?_
                rotate_left
                · (intro W hSw; (try dsimp only at hSw); go_simp; try with_reducible rfl)
                try simp only [Act.put, List.setIfInBounds_toArray, List.set_cons_zero, List.set_cons_succ]
                refine Rel.tk (v := ?_) 5 ?_ ?_
                rotate_left
                · (intro W hSw; (try dsimp only at hSw); go_simp; try with_reducible rfl)
                try simp only [Act.put, List.setIfInBounds_toArray, List.set_cons_zero, List.set_cons_succ]
                refine Rel.tk (v := ?_) 6 ?_ ?_
                rotate_left
                · (intro W hSw; (try dsimp only at hSw); go_simp; try with_reducible rfl)
                try simp only [Act.put, List.setIfInBounds_toArray, List.set_cons_zero, List.set_cons_succ]
                refine Rel.tk (v := ?_) 7 ?_ ?_
                rotate_left
                · (intro W hSw; (try dsimp only at hSw); go_simp; try with_reducible rfl)
                try simp only [Act.put, List.setIfInBounds_toArray, List.set_cons_zero, List.set_cons_succ]
                refine Rel.tk (v := ?_) 8 ?_ ?_
                rotate_left
                · (intro W hSw; (try dsimp only at hSw); go_simp; try with_reducible rfl)
                try simp only [Act.put, List.setIfInBounds_toArray, List.set_cons_zero, List.set_cons_succ]
                refine Rel.tk (v := ?_) 9 ?_ ?_
                rotate_left
                · (intro W hSw; (try dsimp only at hSw); go_simp; try with_reducible rfl)
                try simp only [Act.put, List.setIfInBounds_toArray, List.set_cons_zero, List.set_cons_succ]
                refine Rel.tk (v := ?_) 10 ?_ ?_
                rotate_left
                · (intro W hSw; (try dsimp only at hSw); go_simp; try with_reducible rfl)
                try simp only [Act.put, List.setIfInBounds_toArray, List.set_cons_zero, List.set_cons_succ]
                refine Rel.tk (v := ?_) 11 ?_ ?_
                rotate_left
                · (intro W hSw; (try dsimp only at hSw); go_simp; try with_reducible rfl)
                try simp only [Act.put, List.setIfInBounds_toArray, List.set_cons_zero, List.set_cons_succ]
                refine Rel.heldNext 12 rfl (by kernel_rfl) fun K hK => ?_
                go_simp
                refine (cH w6).mono ?_
                rintro en w7 ⟨rfl, hb7⟩
                have hb67 := below2 hb6 hb7
                have D7 := D6.mono hb7
                have hrt : Roots p e x r := by have h9 := hqr.out; unfold QR at h9; rw [hqi] at h9; rw [hee.out]; exact h9
                refine hK.out _ _ ⟨D7.blk.cell (j := 0) rfl, cell_below hb7 c0, cell_below hb7 c1, cell_below hb7 c2, cell_below hb7 c3, cell_below hb7 c4, cell_below hb7 c5⟩ (fun hH1 => ?_)
                clear hK K
                try simp only [Act.put, List.setIfInBounds_toArray, List.set_cons_zero, List.set_cons_succ]
                by_cases hh : holdsE p (x : Int) e = true
                · have hrm := hide (hrt.more hr2 hh)
                  rw [hh]
                  refine Rel.heldLast 13 rfl (by kernel_rfl) rfl (by kernel_rfl) fun K hK => ?_
                  go_simp
                  refine hK.out _ _ ?_
                  clear hK K hH0 hH1 cH c0 c1 c2 c3 c4 c5 hrt
                  have hsl := (owx.mono hb67).slE
                  have cAH := fun W (h : SlG eqL W (some ⟨g, 0, none⟩) es) => allHold_any p x (some ⟨g, 0, none⟩) i es W ⟨by omega, by omega⟩ h hes.out ⟨by omega, by omega⟩ (by rw [← hnl.out]; exact hel)
                  rw [← hnl.out] at cAH
                  have d0 := (D7).blk.cell (j := 0) rfl
                  have hvI : (v : Int) < V := by omega
                  have hvI0 : (0 : Int) ≤ v := by omega
                  have hgx : gV p R V v Wl x = if es.all (holdsE p (x : Int)) = true then cnt p R (V - (v + 1)) (Wl.take v ++ [(x : Int)]) else 0 := by unfold gV; rw [← he.out]
                  have hqn : Hid (QR p es (x + 1) (r + 1)) := hide (by unfold QR; rw [hqi]; show Roots _ _ _ _; rw [← hee.out]; exact hrm.out)
                  go_wp2_with fail
                  refine (cAH _ hsl).mono ?_
                  rintro en w8 ⟨rfl, hb8⟩
                  have D8 := (D7).mono hb8
                  have kx8 : KW gw w0.heap.size wr w8 := KW.of_below (below2 hb67 hb8) Dx.below.size
                  by_cases hall : es.all (holdsE p (x : Int)) = true
                  · rw [if_pos hall] at hgx
                    rw [hall]
                    have hlx1 := hlx.out
                    have hset : (Wl1.set v (x : Int)).take (v + 1) = Wl.take v ++ [(x : Int)] := by
                      rw [take_succ_getD _ 0 (by rw [List.length_set]; omega), List.take_set_of_le (Nat.le_refl _), List.getD_eq_getElem?_getD, List.getElem?_set_self (by omega), htx.out]
                      rfl
                    obtain ⟨D9, k9⟩ := D8.setW v (x : Int)
                    have cI := ih _ _ (most - cur) D9 (fun u hu => by
                      rcases List.mem_or_eq_of_mem_set hu with hu | hu
                      · exact hAx u hu
                      · subst hu; omega) (by rw [List.length_set]; exact hlx1) (by omega) (by omega)
                    have hwI : IntKind.i64.wrap ((v : Int) + 1) = ((v + 1 : Nat) : Int) := by rw [IntKind.wrap_i64]; omega
                    have hwS : IntKind.i64.wrap (most - cur) = most - cur := by rw [IntKind.wrap_i64]; omega
                    have q4 := D8.blk.cell (j := 4) rfl
                    have ff := D8.ow.free v
                    have cc := D8.ow.cell (j := v) (by omega)
                    have k89 := kx8.trans k9
                    replace hset := hide hset
                    replace hgx := hide hgx
                    clear d0 cAH
                    go_wp2_with fail
                    refine cI.mono ?_
                    rintro en wz ⟨rfl, Wl', Dz, hAz, hlz, htz, kz⟩
                    rw [hset.out, ← hgx.out]
                    obtain ⟨z, hz⟩ : ∃ z : Int, z = min (most - cur) (gV p R V v Wl x : Int) := ⟨_, rfl⟩
                    rw [← hz]
                    have hsn : cur + z = min most (sumN (x + 1) (gV p R V v Wl) : Int) := by rw [sumN, hz, hcur.out]; omega
                    have hwz : IntKind.i64.wrap (cur + z) = cur + z := by rw [IntKind.wrap_i64]; omega
                    have htk : Wl'.take v = Wl.take v := by
                      have := congrArg (List.take v) (htz.trans hset.out)
                      rw [List.take_take, Nat.min_eq_left (by omega), List.take_append_of_le_length (by rw [List.length_take]; omega), List.take_take, Nat.min_self] at this
                      exact this
                    replace hz := hide hz
                    go_wp2
                    rw [← hqI]
                    go_roundw
                    case rel => exact ⟨x + 1, r + 1, Wl', by omega, by omega, rfl, by go_num, by go_num, Dz, hAz, hide hlz, hide htk, kx.trans (k89.trans kz), k3.trans (k89.trans kz), hqn⟩
                    case measure => simp [intOf]; omega
                  · rw [if_neg hall] at hgx
                    have hall2 : es.all (holdsE p (x : Int)) = false := by simpa using hall
                    rw [hall2]
                    have hsn : cur = min most (sumN (x + 1) (gV p R V v Wl) : Int) := by rw [sumN, hgx, hcur.out, Nat.add_zero]
                    clear cAH
                    go_wp2
                    rw [← hqI]
                    go_roundw
                    case rel => exact ⟨x + 1, r + 1, Wl1, by omega, by omega, by rw [← hsn], by go_num, by go_num, D8, hAx, hlx, htx, kx.trans kx8, k3.trans kx8, hqn⟩
                    case measure => simp [intOf]; omega
                · have hrm := hide hrt.keep
                  have hh2 : holdsE p (x : Int) e = false := by simpa using hh
                  rw [hh2]
                  refine Rel.heldLast 13 rfl (by kernel_rfl) rfl (by kernel_rfl) fun K hK => ?_
                  go_simp
                  refine hK.out _ _ ?_
                  clear hK K hH0 hH1 cH c0 c1 c2 c3 c4 c5 hrt
                  have hsl := (owx.mono hb67).slE
                  have cAH := fun W (h : SlG eqL W (some ⟨g, 0, none⟩) es) => allHold_any p x (some ⟨g, 0, none⟩) i es W ⟨by omega, by omega⟩ h hes.out ⟨by omega, by omega⟩ (by rw [← hnl.out]; exact hel)
                  rw [← hnl.out] at cAH
                  have d0 := (D7).blk.cell (j := 0) rfl
                  have hvI : (v : Int) < V := by omega
                  have hvI0 : (0 : Int) ≤ v := by omega
                  have hgx : gV p R V v Wl x = if es.all (holdsE p (x : Int)) = true then cnt p R (V - (v + 1)) (Wl.take v ++ [(x : Int)]) else 0 := by unfold gV; rw [← he.out]
                  have hqn : Hid (QR p es (x + 1) (r)) := hide (by unfold QR; rw [hqi]; show Roots _ _ _ _; rw [← hee.out]; exact hrm.out)
                  go_wp2_with fail
                  refine (cAH _ hsl).mono ?_
                  rintro en w8 ⟨rfl, hb8⟩
                  have D8 := (D7).mono hb8
                  have kx8 : KW gw w0.heap.size wr w8 := KW.of_below (below2 hb67 hb8) Dx.below.size
                  by_cases hall : es.all (holdsE p (x : Int)) = true
                  · rw [if_pos hall] at hgx
                    rw [hall]
                    have hlx1 := hlx.out
                    have hset : (Wl1.set v (x : Int)).take (v + 1) = Wl.take v ++ [(x : Int)] := by
                      rw [take_succ_getD _ 0 (by rw [List.length_set]; omega), List.take_set_of_le (Nat.le_refl _), List.getD_eq_getElem?_getD, List.getElem?_set_self (by omega), htx.out]
                      rfl
                    obtain ⟨D9, k9⟩ := D8.setW v (x : Int)
                    have cI := ih _ _ (most - cur) D9 (fun u hu => by
                      rcases List.mem_or_eq_of_mem_set hu with hu | hu
                      · exact hAx u hu
                      · subst hu; omega) (by rw [List.length_set]; exact hlx1) (by omega) (by omega)
                    have hwI : IntKind.i64.wrap ((v : Int) + 1) = ((v + 1 : Nat) : Int) := by rw [IntKind.wrap_i64]; omega
                    have hwS : IntKind.i64.wrap (most - cur) = most - cur := by rw [IntKind.wrap_i64]; omega
                    have q4 := D8.blk.cell (j := 4) rfl
                    have ff := D8.ow.free v
                    have cc := D8.ow.cell (j := v) (by omega)
                    have k89 := kx8.trans k9
                    replace hset := hide hset
                    replace hgx := hide hgx
                    clear d0 cAH
                    go_wp2_with fail
                    refine cI.mono ?_
                    rintro en wz ⟨rfl, Wl', Dz, hAz, hlz, htz, kz⟩
                    rw [hset.out, ← hgx.out]
                    obtain ⟨z, hz⟩ : ∃ z : Int, z = min (most - cur) (gV p R V v Wl x : Int) := ⟨_, rfl⟩
                    rw [← hz]
                    have hsn : cur + z = min most (sumN (x + 1) (gV p R V v Wl) : Int) := by rw [sumN, hz, hcur.out]; omega
                    have hwz : IntKind.i64.wrap (cur + z) = cur + z := by rw [IntKind.wrap_i64]; omega
                    have htk : Wl'.take v = Wl.take v := by
                      have := congrArg (List.take v) (htz.trans hset.out)
                      rw [List.take_take, Nat.min_eq_left (by omega), List.take_append_of_le_length (by rw [List.length_take]; omega), List.take_take, Nat.min_self] at this
                      exact this
                    replace hz := hide hz
                    go_wp2
                    rw [← hqI]
                    go_roundw
                    case rel => exact ⟨x + 1, r, Wl', by omega, by omega, rfl, by go_num, by go_num, Dz, hAz, hide hlz, hide htk, kx.trans (k89.trans kz), k3.trans (k89.trans kz), hqn⟩
                    case measure => simp [intOf]; omega
                  · rw [if_neg hall] at hgx
                    have hall2 : es.all (holdsE p (x : Int)) = false := by simpa using hall
                    rw [hall2]
                    have hsn : cur = min most (sumN (x + 1) (gV p R V v Wl) : Int) := by rw [sumN, hgx, hcur.out, Nat.add_zero]
                    clear cAH
                    go_wp2
                    rw [← hqI]
                    go_roundw
                    case rel => exact ⟨x + 1, r, Wl1, by omega, by omega, by rw [← hsn], by go_num, by go_num, D8, hAx, hlx, htx, kx.trans kx8, k3.trans kx8, hqn⟩
                    case measure => simp [intOf]; omega
            · have hr2I : ¬ (r : Int) < 2 := by omega
              have hfinal := hret (by rw [hcur.out, hend (by omega)])
              clear hret hend hcur
              go_wp2
              exact bodyPost_ret (v := .int .i64 cur) (by simp [results, Tryz.results85, go_sem]) rfl hfinal
          · have hfinal := hret (by have := hcur.out; omega)
            clear hret hend hcur
            go_wp2
            exact bodyPost_ret (v := .int .i64 cur) (by simp [results, Tryz.results85, go_sem]) rfl hfinal
        · obtain rfl : x = p := by omega
          have hfinal := hret hcur.out
          clear hret hend hcur
          go_wp2
          exact bodyPost_ret (v := .int .i64 cur) (by simp [results, Tryz.results85, go_sem]) rfl hfinal
end Go.Proofs.YtalmgeefkcebdaaGreatDoor

/- Exhaustive search: the count, whole; what a front determines. -/
namespace Go.Proofs.YtalmgeefkcebdaaGreatDoor
open Go.ChangeShapes Go.WideShapes Go.ChangeAt Go.RowKit

theorem count_any {w0 : World} {q p V last gi gr gw : Nat} {IL : List Int} {R : List Row3} (hV : V ≤ 65536) (hv : vld (p : Int) = true) (h257 : p ≤ 257) (hR : ∀ r ∈ R, RowOk p V r) (hn : R.length ≤ 1000000) (hI : InvL p p IL) (hIl : IL.length = p) (hlast : ∀ r ∈ R, gtR r ≤ last) (hlV : last < V) :
    ∀ (k v : Nat), v + k = V → 0 < v → ∀ (w : World) (Wl : List Int) (most : Int), SS w0 w q p V last gi gr gw IL R Wl → AllW Wl → Wl.length = V → 0 ≤ most → most ≤ 9223372036854775807 →
      Calls Tryz.prog 85 #[.pointer (some ⟨q, 0, none⟩), .int .i64 v, .int .i64 most] w (RetCnt w0 w q p V last gi gr gw IL R Wl v most)
  | 0, v, hk, h0, w, Wl, most, D, hA, hl, hm, hm2 => countTop_any D hA hl hV hv h257 hlast hlV v most (by omega) ⟨hm, hm2⟩ (.inl (by omega))
  | k + 1, v, hk, h0, w, Wl, most, D, hA, hl, hm, hm2 => by
    by_cases h : last < v ∨ most = 0
    · exact countTop_any D hA hl hV hv h257 hlast hlV v most (by omega) ⟨hm, hm2⟩ h
    · exact countStep_any D hA hl hV hv h257 hR hn hI hIl v most h0 (by omega) (by omega) ⟨by omega, hm2⟩ fun W Wl2 m D2 hA2 hl2 h1 h2 => count_any hV hv h257 hR hn hI hIl hlast hlV k (v + 1) (by omega) (by omega) W Wl2 m D2 hA2 hl2 h1 (by omega)

/-- The rows without further variables hold for all beginnings of 1 and a front. -/
def preOk (p : Int) (R : List Row3) (front : List Int) : Bool := decide (∀ k, k < front.length + 1 → okAt p R (1 :: front.take k) = true)
theorem preOk_stop {p : Int} {R : List Row3} {front : List Int} {k : Nat} (hk : k ≤ front.length) (h : okAt p R (1 :: front.take k) = false) : preOk p R front = false := by
  unfold preOk
  exact decide_eq_false fun h2 => by rw [h2 k (by omega)] at h; cases h
theorem preOk_all {p : Int} {R : List Row3} {front : List Int} (h : ∀ k, k < front.length + 1 → okAt p R (1 :: front.take k) = true) : preOk p R front = true := decide_eq_true h
/-- What Count answers. -/
def totN (p : Nat) (R : List Row3) (V : Nat) (front : List Int) (most : Int) : Int := if preOk p R front then min most (cnt p R (V - (1 + front.length)) (1 :: front) : Int) else 0
/-- The rows without any variable. -/
theorem okAt_es0 {p V : Nat} {R : List Row3} {Wl : List Int} (hv : vld (p : Int) = true) (hR : ∀ r ∈ R, RowOk p V r) (hW : Wl.take 1 = [1]) : okAt p R [1] = (esV p R Wl 0).all (holdsE p 0) := by
  have hl : 1 ≤ Wl.length := by have := congrArg List.length hW; rw [List.length_take, List.length_singleton] at this; omega
  unfold okAt esV
  rw [List.length_singleton, Nat.sub_self, List.all_map]
  rw [Bool.eq_iff_iff, List.all_eq_true, List.all_eq_true]
  refine forall_congr' fun r => forall_congr' fun hr => ?_
  have hr2 := List.mem_filter.1 hr
  obtain ⟨⟨k1, _⟩, ⟨k2, _⟩, ⟨k3, _⟩⟩ := hR r hr2.1
  have hg : gtR r = 0 := beq_iff_eq.1 hr2.2
  have hg2 := hg
  unfold gtR at hg2
  have val : ∀ x : Lin, LinIn p 0 V x → gtL x = 0 → lnAt p 0 (lnV p Wl 0 x) = lval p [1] x := fun x hx hgx => by
    unfold lnAt lnV
    rw [if_neg (by omega)]
    show (lval p Wl x + 0 * 0) % p = _
    rw [Int.zero_mul, Int.add_zero, Int.emod_eq_of_lt (lval_bds hv _ _).1 (lval_bds hv _ _).2, ← hW]
    by_cases e0 : x = []
    · subst e0; rfl
    · obtain ⟨y, t, rfl, h1, h2, h3, h4⟩ := lin_last hx e0
      exact lval_take hv (fun u hu => by
        rcases List.mem_append.1 hu with hu | hu
        · have := h1 u hu; omega
        · rw [List.mem_singleton] at hu; subst hu; omega) hl
  rw [Function.comp]
  unfold satB holdsE eqnV
  simp only
  rw [val r.a k1 (by omega), val r.b k2 (by omega), val r.c k3 (by omega), fmul_eq hv]
/-- The next element of a front. -/
theorem take_front {front : List Int} {i : Nat} (hi : i < front.length) : 1 :: front.take (i + 1) = (1 :: front.take i) ++ [front.getD i 0] := by
  rw [List.take_succ_eq_append_getElem hi, List.getD_eq_getElem?_getD, List.getElem?_eq_getElem hi]
  rfl
theorem Sl.setOther {w : World} {k : IntKind} {a : Option Addr} {xs : List Int} (h : Sl w k a xs) {g j : Nat} {u : Value} (hn : 0 < xs.length → ∀ b off, a = some ⟨b, off, none⟩ → b ≠ g) : Sl (w.setCell ⟨g, j, none⟩ u) k a xs := fun h0 => by
  obtain ⟨b, off, e, hl, hc⟩ := h h0
  refine ⟨b, off, e, by rw [World.size_setCell]; exact hl, fun i hi => ?_⟩
  rw [World.cell?_setCell_far _ _ _ _ (fun e2 => hn h0 b off e (by simpa using e2.symm))]
  exact hc i hi
end Go.Proofs.YtalmgeefkcebdaaGreatDoor

/- Exhaustive search: the assignments that begin with a front. -/
namespace Go.Proofs.YtalmgeefkcebdaaGreatDoor
open Go.ChangeShapes Go.WideShapes Go.ChangeAt Go.RowKit

theorem equations_es {w0 w : World} {q p V last gi gr gw : Nat} {IL : List Int} {R : List Row3} {Wl : List Int} (D : SS w0 w q p V last gi gr gw IL R Wl) (hA : AllW Wl) (hVl : Wl.length = V) (v : Nat) (vi : Int) (hvi : vi = v) (hv : vld (p : Int) = true) (hR : ∀ r ∈ R, RowOk p V r) (hvV : v < V) (hn : R.length ≤ 1000000) :
    Calls Tryz.prog 84 #[.pointer (some ⟨q, 0, none⟩), .int .i64 vi] w fun en w' => ∃ g, en = .returned (.slice (some ⟨g, 0, none⟩) (esV p R Wl v).length (esV p R Wl v).length) ∧ OwnG eqL w' w.heap.size 224 (.slice (some ⟨g, 0, none⟩) (esV p R Wl v).length (esV p R Wl v).length) (esV p R Wl v) ∧ Below w.heap.size w w' := by
  subst hvi
  exact equations_any D hA hVl v hv hR hvV hn
/-- What with answers and leaves. -/
def RetW (w0 w : World) (q p V last gi gr gw : Nat) (IL : List Int) (R : List Row3) (front : List Int) (most : Int) (en : Ending) (w' : World) : Prop :=
  en = .returned (.int .i64 (totN p R V front most)) ∧ ∃ Wl', SS w0 w' q p V last gi gr gw IL R Wl' ∧ AllW Wl' ∧ Wl'.length = V ∧ Wl'.take 1 = [1] ∧ KW gw w0.heap.size w w'

set_option maxRecDepth 10000 in
set_option maxHeartbeats 16000000 in
theorem with_any {w0 w : World} {q p V last gi gr gw : Nat} {IL : List Int} {R : List Row3} {Wl : List Int} (D : SS w0 w q p V last gi gr gw IL R Wl) (hA : AllW Wl) (hVl : Wl.length = V) (hW1 : Wl.take 1 = [1]) (hV : V ≤ 65536) (hv : vld (p : Int) = true) (h257 : p ≤ 257) (hR : ∀ r ∈ R, RowOk p V r) (hn : R.length ≤ 1000000) (hI : InvL p p IL) (hIl : IL.length = p) (hlast : ∀ r ∈ R, gtR r ≤ last) (hlV : last < V)
    (fa : Option Addr) (fc : Nat) (front : List Int) (most : Int) (sF : Sl w .u64 fa front) (hF : ∀ x ∈ front, 0 ≤ x ∧ x < p) (hfl : 1 + front.length ≤ V) (hfa : 0 < front.length → ∀ b off, fa = some ⟨b, off, none⟩ → b ≠ gw) (hm : 0 ≤ most ∧ most ≤ 9223372036854775807) :
    Calls Tryz.prog 41 #[.pointer (some ⟨q, 0, none⟩), .slice fa front.length fc, .int .i64 most] w (RetW w0 w q p V last gi gr gw IL R front most) := by
  have hp := vld_pos hv
  have cE := fun W Wl2 (v : Nat) (vi : Int) (D : SS w0 W q p V last gi gr gw IL R Wl2) hA2 hl2 hvi hvV => equations_es (w := W) D hA2 hl2 v vi hvi hv hR hvV hn
  have hesb := fun Wl2 v => esV_bd (V := V) (Wl := Wl2) (v := v) hv hR
  have hesl : ∀ Wl2 v, (esV p R Wl2 v).length ≤ 1000000 := fun Wl2 v => by
    unfold esV rowsAt
    rw [List.length_map]
    exact Nat.le_trans (List.length_filter_le _ _) hn
  have h0s := okAt_es0 hv hR hW1
  have his := fun Wl2 v h0 hl x => okAt_es (Wl := Wl2) (v := v) hv hR h0 hl x
  have cC := fun k v hk h0 W Wl2 m D hA2 hl2 => count_any (w0 := w0) (q := q) (gi := gi) (gr := gr) (gw := gw) hV hv h257 hR hn hI hIl hlast hlV k v hk h0 W Wl2 m D hA2 hl2
  obtain ⟨hm1, hm2⟩ := hm
  obtain ⟨n, hnl⟩ : ∃ n, front.length = n := ⟨_, rfl⟩
  rw [hnl] at hfl
  rw [hnl]
  have hnI : (n : Int) ≤ 65536 := by omega
  replace hnl := hide hnl
  replace hF := hide hF
  replace his := hide his
  replace hI := hide hI
  clear hR hn hlast
  obtain ⟨es, he⟩ : ∃ es, es = esV p R Wl 0 := ⟨_, rfl⟩
  have cE0 := fun W D => cE W Wl 0 0 D hA hVl rfl (by omega)
  have hes0 := hesb Wl 0
  have hel0 := hesl Wl 0
  rw [← he] at cE0 hes0 hel0 h0s
  obtain ⟨m, hml⟩ : ∃ m, es.length = m := ⟨_, rfl⟩
  rw [hml] at cE0 hel0
  replace hml := hide hml
  replace he := hide he
  have hp0 : (0 : Int) < p ∧ (p : Int) ≤ 257 := ⟨by omega, by omega⟩
  go_enter Tryz.func41, Tryz.ntmps41
  go_wp2_with fail
  refine Rel.region_any Tryz.mixed fun w4 hb4 => ?_
  have D4 := D.mono hb4
  refine Rel.any_held (fun W => W.cell? ⟨q, 0, none⟩ = some (.int .u64 p)) 7 (D4.blk.cell (j := 0) rfl) fun hH0 => ?_
  refine Rel.tk (v := ?_) 0 ?_ ?_
  rotate_left
  · (intro W hSw; (try dsimp only at hSw); go_simp; try with_reducible rfl)
  try simp only [Act.put, List.setIfInBounds_toArray, List.set_cons_zero, List.set_cons_succ]
  refine Rel.tk (v := ?_) 2 ?_ ?_
  rotate_left
  · (intro W hSw; (try dsimp only at hSw); go_simp; try with_reducible rfl)
  try simp only [Act.put, List.setIfInBounds_toArray, List.set_cons_zero, List.set_cons_succ]
  refine Rel.tk (v := ?_) 3 ?_ ?_
  rotate_left
  · (intro W hSw; (try dsimp only at hSw); go_simp; try with_reducible rfl)
  try simp only [Act.put, List.setIfInBounds_toArray, List.set_cons_zero, List.set_cons_succ]
  refine Rel.tk (v := ?_) 4 ?_ ?_
  rotate_left
  · (intro W hSw; (try dsimp only at hSw); go_simp; try with_reducible rfl)
  try simp only [Act.put, List.setIfInBounds_toArray, List.set_cons_zero, List.set_cons_succ]
  refine Rel.tk (v := ?_) 5 ?_ ?_
  rotate_left
  · (intro W hSw; (try dsimp only at hSw); go_simp; try with_reducible rfl)
  try simp only [Act.put, List.setIfInBounds_toArray, List.set_cons_zero, List.set_cons_succ]
  refine Rel.heldNext 1 rfl (by kernel_rfl) fun K hK => ?_
  go_simp
  refine (cE0 w4 D4).mono ?_
  rintro en w5 ⟨g, rfl, ow, hb5⟩
  have D5 := D4.mono hb5
  refine hK.out _ _ (D5.blk.cell (j := 0) rfl) (fun hH1 => ?_)
  clear hK K
  try simp only [Act.put, List.setIfInBounds_toArray, List.set_cons_zero, List.set_cons_succ]
  refine Rel.heldNext 6 rfl (by kernel_rfl) fun K hK => ?_
  go_simp
  have cAH := fun W (h : SlG eqL W (some ⟨g, 0, none⟩) es) => allHold_any p 0 (some ⟨g, 0, none⟩) m es W hp0 h hes0 ⟨by omega, by omega⟩ (by rw [hml.out]; exact hel0)
  rw [hml.out] at cAH
  refine (cAH w5 ow.slE).mono ?_
  rintro en w6 ⟨rfl, hb6⟩
  have D6 := D5.mono hb6
  have hB6 := below2 (below2 hb4 hb5) hb6
  have sF6 := sF.mono hB6
  have k6 : KW gw w0.heap.size w w6 := KW.of_below hB6 D.below.size
  by_cases hall : es.all (holdsE p 0) = true
  · rw [hall]
    rw [hall] at h0s
    refine hK.out _ _ (D6.blk.cell (j := 0) rfl) (fun hH2 => ?_)
    clear hK K
    try simp only [Act.put, List.setIfInBounds_toArray, List.set_cons_zero, List.set_cons_succ]
    refine Rel.heldLast 7 rfl (by kernel_rfl) rfl (by kernel_rfl) fun K hK => ?_
    go_simp
    refine hK.out _ _ ?_
    clear hK K hH0 hH1 hH2 cAH hb4 hb5 hb6 ow D4 D5 cE0 hes0 hB6
    have hW1' := hide hW1
    have hk0 : ∀ k, k < 0 + 1 → okAt p R (1 :: front.take k) = true := fun k hk => by
      obtain rfl : k = 0 := by omega
      exact h0s
    replace h0s := hide h0s
    replace hk0 := hide hk0
    go_wp2_with fail
    go_loopw [19] (fun t19 wr => ∃ (i : Nat) (Wl1 : List Int), i ≤ n ∧ t19 = .int .i64 i ∧ SS w0 wr q p V last gi gr gw IL R Wl1 ∧ AllW Wl1 ∧ Hid (Wl1.length = V) ∧ Hid (Wl1.take (i + 1) = 1 :: front.take i) ∧ Sl wr .u64 fa front ∧ KW gw w0.heap.size w wr ∧ Hid (∀ k, k < i + 1 → okAt p R (1 :: front.take k) = true)) (fun t19 _ => n - (intOf t19).toNat)
    case atStart => exact ⟨0, Wl, Nat.zero_le _, rfl, D6, hA, hide hVl, hide hW1, sF6, k6, hk0⟩
    case round =>
      obtain ⟨i, Wl1, hi, rfl, Dx, hAx, hlx, htx, sFx, kx, hok⟩ := hrel
      obtain ⟨v, hvd⟩ : ∃ v, v = i + 1 := ⟨_, rfl⟩
      have hv1 : (1 : Int) + i = v := by omega
      have hw1 : IntKind.i64.wrap (v : Int) = v := by rw [IntKind.wrap_i64]; omega
      have hv0 : 0 < v := by omega
      have hlxo := hlx.out
      rw [← hvd] at htx
      by_cases hlt : i < n
      · have hltI : (i : Int) < n := by omega
        have hif : i < front.length := by have := hnl.out; omega
        obtain ⟨b, off, hfae, _, hfc⟩ := sFx (by omega)
        have hc := hfc i hif
        have hxb := hF.out _ (getD_mem' hif 0)
        have hst := take_front hif
        have hy := his.out Wl1 v hv0 (by omega)
        obtain ⟨x, hx⟩ : ∃ x, x = front.getD i 0 := ⟨_, rfl⟩
        rw [← hx] at hc hxb hst
        replace hx := hide hx
        have hyx := hy x
        rw [htx.out, ← hst] at hyx
        have cEx := fun W D => cE W Wl1 v v D hAx hlxo rfl (by omega)
        have hesx := hesb Wl1 v
        have helx := hesl Wl1 v
        obtain ⟨ex, hex⟩ : ∃ ex, ex = esV p R Wl1 v := ⟨_, rfl⟩
        rw [← hex] at cEx hesx helx hyx
        obtain ⟨mx, hmx⟩ : ∃ mx, ex.length = mx := ⟨_, rfl⟩
        rw [hmx] at cEx helx
        replace hmx := hide hmx
        replace hex := hide hex
        replace hst := hide hst
        replace hvd := hide hvd
        obtain ⟨hx0, hx1⟩ := hxb
        cases hfae
        clear hy hfc
        have hvV : (v : Int) < V := by omega
        have hvV0 : (0 : Int) ≤ v := by omega
        go_wp2_with fail
        refine Rel.region_any Tryz.mixed fun w7 hb7 => ?_
        have D7 := Dx.mono hb7
        refine Rel.any_held (fun W => W.cell? ⟨q, 0, none⟩ = some (.int .u64 p)) 10 (D7.blk.cell (j := 0) rfl) fun hH0 => ?_
        refine Rel.tk (v := ?_) 0 ?_ ?_
        rotate_left
        · (intro W hSw; (try dsimp only at hSw); go_simp; try with_reducible rfl)
        try simp only [Act.put, List.setIfInBounds_toArray, List.set_cons_zero, List.set_cons_succ]
        refine Rel.tk (v := ?_) 1 ?_ ?_
        rotate_left
        · (intro W hSw; (try dsimp only at hSw); go_simp; try with_reducible rfl)
        try simp only [Act.put, List.setIfInBounds_toArray, List.set_cons_zero, List.set_cons_succ]
        refine Rel.tk (v := ?_) 2 ?_ ?_
        rotate_left
        · (intro W hSw; (try dsimp only at hSw); go_simp; try with_reducible rfl)
        try simp only [Act.put, List.setIfInBounds_toArray, List.set_cons_zero, List.set_cons_succ]
        refine Rel.tk (v := ?_) 4 ?_ ?_
        rotate_left
        · (intro W hSw; (try dsimp only at hSw); go_simp; try with_reducible rfl)
        try simp only [Act.put, List.setIfInBounds_toArray, List.set_cons_zero, List.set_cons_succ]
        refine Rel.tk (v := ?_) 5 ?_ ?_
        rotate_left
        · (intro W hSw; (try dsimp only at hSw); go_simp; try with_reducible rfl)
        try simp only [Act.put, List.setIfInBounds_toArray, List.set_cons_zero, List.set_cons_succ]
        refine Rel.tk (v := ?_) 6 ?_ ?_
        rotate_left
        · (intro W hSw; (try dsimp only at hSw); go_simp; try with_reducible rfl)
        try simp only [Act.put, List.setIfInBounds_toArray, List.set_cons_zero, List.set_cons_succ]
        refine Rel.tk (v := ?_) 7 ?_ ?_
        rotate_left
        · (intro W hSw; (try dsimp only at hSw); go_simp; try with_reducible rfl)
        try simp only [Act.put, List.setIfInBounds_toArray, List.set_cons_zero, List.set_cons_succ]
        refine Rel.tk (v := ?_) 8 ?_ ?_
        rotate_left
        · (intro W hSw; (try dsimp only at hSw); go_simp; try with_reducible rfl)
        try simp only [Act.put, List.setIfInBounds_toArray, List.set_cons_zero, List.set_cons_succ]
        refine Rel.heldNext 3 rfl (by kernel_rfl) fun K hK => ?_
        go_simp
        refine (cEx w7 D7).mono ?_
        rintro en w8 ⟨g2, rfl, ow2, hb8⟩
        have D8 := D7.mono hb8
        refine hK.out _ _ (D8.blk.cell (j := 0) rfl) (fun hH1 => ?_)
        clear hK K
        try simp only [Act.put, List.setIfInBounds_toArray, List.set_cons_zero, List.set_cons_succ]
        refine Rel.heldNext 9 rfl (by kernel_rfl) fun K hK => ?_
        go_simp
        have cAH := fun W (h : SlG eqL W (some ⟨g2, 0, none⟩) ex) => allHold_any p x (some ⟨g2, 0, none⟩) mx ex W hp0 h hesx ⟨hx0, hx1⟩ (by rw [hmx.out]; exact helx)
        rw [hmx.out] at cAH
        refine (cAH w8 ow2.slE).mono ?_
        rintro en w9 ⟨rfl, hb9⟩
        have D9 := D8.mono hb9
        have hB9 := below2 (below2 hb7 hb8) hb9
        have sF9 := sFx.mono hB9
        have k9 := kx.trans (KW.of_below hB9 Dx.below.size)
        by_cases hallx : ex.all (holdsE p x) = true
        · rw [hallx]
          rw [hallx] at hyx
          refine hK.out _ _ (D9.blk.cell (j := 0) rfl) (fun hH2 => ?_)
          clear hK K
          try simp only [Act.put, List.setIfInBounds_toArray, List.set_cons_zero, List.set_cons_succ]
          refine Rel.heldLast 10 rfl (by kernel_rfl) rfl (by kernel_rfl) fun K hK => ?_
          go_simp
          refine hK.out _ _ ?_
          clear hK K hH0 hH1 hH2 cAH hb7 hb8 hb9 ow2 D7 D8 cEx hesx hB9
          obtain ⟨DA, kA⟩ := D9.setW v x
          have sFA := sF9.setOther (g := gw) (j := v) (u := .int .u64 x) hfa
          have hset : Hid ((Wl1.set v x).take (i + 1 + 1) = 1 :: front.take (i + 1)) := hide (by
            rw [hst.out, ← hvd.out, take_succ_getD _ 0 (by rw [List.length_set]; omega), List.take_set_of_le (Nat.le_refl _), List.getD_eq_getElem?_getD, List.getElem?_set_self (by omega), htx.out]
            rfl)
          have hokn : Hid (∀ k, k < i + 1 + 1 → okAt p R (1 :: front.take k) = true) := hide fun k hk => by
            by_cases e : k = i + 1
            · subst e; exact hyx
            · exact hok.out k (by omega)
          have hAn : AllW (Wl1.set v x) := fun u hu => by
            rcases List.mem_or_eq_of_mem_set hu with hu | hu
            · exact hAx u hu
            · subst hu; omega
          have q4 := D9.blk.cell (j := 4) rfl
          have ff := D9.ow.free v
          have cc := D9.ow.cell (j := v) (by omega)
          have kn := k9.trans kA
          clear hyx hc
          go_wp2
          go_roundw
          case rel => exact ⟨i + 1, _, by omega, by go_num, DA, hAn, hide (by rw [List.length_set]; exact hlxo), hset, sFA, kn, hokn⟩
          case measure => simp [intOf]; omega
        · have hallx2 : ex.all (holdsE p x) = false := by simpa using hallx
          rw [hallx2]
          rw [hallx2] at hyx
          have hno := preOk_stop (p := p) (k := i + 1) (by have := hnl.out; omega) hyx
          have hfinal : RetW w0 w q p V last gi gr gw IL R front most (.returned (.int .i64 0)) w9 := ⟨by unfold totN; rw [hno]; rfl, Wl1, D9, hAx, hlxo, by
            have := congrArg (List.take 1) htx.out
            rw [List.take_take, Nat.min_eq_left (by omega)] at this
            exact this, k9⟩
          refine hK.out _ _ (D9.blk.cell (j := 0) rfl) (fun hH2 => ?_)
          clear hK K
          try simp only [Act.put, List.setIfInBounds_toArray, List.set_cons_zero, List.set_cons_succ]
          refine Rel.heldLast 10 rfl (by kernel_rfl) rfl (by kernel_rfl) fun K hK => ?_
          go_simp
          refine hK.out _ _ ?_
          clear hK K hH0 hH1 hH2 cAH hno hyx
          go_wp2
          exact bodyPost_ret (v := .int .i64 0) (by simp [results, Tryz.results41, go_sem]) rfl hfinal
      · obtain rfl : i = n := by omega
        have cI := cC (V - v) v (by omega) hv0 wr Wl1 most Dx hAx hlxo hm1 hm2
        have hyes := preOk_all (p := p) (R := R) (front := front) (by rw [hnl.out]; exact hok.out)
        have hfr : front.take i = front := List.take_of_length_le (by rw [hnl.out]; exact Nat.le_refl _)
        rw [hfr] at htx
        have hres : Hid (totN p R V front most = min most (cnt p R (V - v) (Wl1.take v) : Int)) := hide (by
          unfold totN
          rw [hyes, if_pos rfl, htx.out, hnl.out, hvd, Nat.add_comm])
        clear hyes hfr
        replace hvd := hide hvd
        go_wp2_with fail
        refine cI.mono ?_
        rintro en wz ⟨rfl, Wl', Dz, hAz, hlz, htz, kz⟩
        have hfinal : RetW w0 w q p V last gi gr gw IL R front most (.returned (.int .i64 (min most (cnt p R (V - v) (Wl1.take v) : Int)))) wz := ⟨by rw [hres.out], Wl', Dz, hAz, hlz, by
          have := congrArg (List.take 1) (htz.trans htx.out)
          rw [List.take_take, Nat.min_eq_left (by omega)] at this
          exact this, kx.trans kz⟩
        generalize min most (cnt p R (V - v) (Wl1.take v) : Int) = z at *
        go_wp2
        exact bodyPost_ret (v := .int .i64 z) (by simp [results, Tryz.results41, go_sem]) rfl hfinal
  · have hall2 : es.all (holdsE p 0) = false := by simpa using hall
    rw [hall2]
    rw [hall2] at h0s
    have hno := preOk_stop (p := p) (front := front) (k := 0) (Nat.zero_le _) h0s
    have hfinal : RetW w0 w q p V last gi gr gw IL R front most (.returned (.int .i64 0)) w6 := ⟨by unfold totN; rw [hno]; rfl, Wl, D6, hA, hVl, hW1, k6⟩
    refine hK.out _ _ (D6.blk.cell (j := 0) rfl) (fun hH2 => ?_)
    clear hK K
    try simp only [Act.put, List.setIfInBounds_toArray, List.set_cons_zero, List.set_cons_succ]
    refine Rel.heldLast 7 rfl (by kernel_rfl) rfl (by kernel_rfl) fun K hK => ?_
    go_simp
    refine hK.out _ _ ?_
    clear hK K hH0 hH1 hH2 cAH hno h0s
    go_wp2
    exact bodyPost_ret (v := .int .i64 0) (by simp [results, Tryz.results41, go_sem]) rfl hfinal
end Go.Proofs.YtalmgeefkcebdaaGreatDoor

