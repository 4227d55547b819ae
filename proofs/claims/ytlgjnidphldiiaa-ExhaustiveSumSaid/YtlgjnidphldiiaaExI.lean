/- Exhaustive search: the count, whole; what a front determines. -/
import Derived.Test.YtlgjnidphldiiaaExH
namespace Go.Proofs.Ytlgjnidphldiiaa
open Go.ChangeShapes Go.WideShapes Go.ChangeAt Go.RowKit

theorem count_any {w0 : World} {q p V last gi gr gw : Nat} {IL : List Int} {R : List Row3} (hV : V ≤ 65536) (hv : vld (p : Int) = true) (h257 : p ≤ 257) (hR : ∀ r ∈ R, RowOk p V r) (hn : R.length ≤ 1000000) (hI : InvL p p IL) (hIl : IL.length = p) (hlast : ∀ r ∈ R, gtR r ≤ last) (hlV : last < V) :
    ∀ (k v : Nat), v + k = V → 0 < v → ∀ (w : World) (Wl : List Int) (most : Int), SS w0 w q p V last gi gr gw IL R Wl → AllW Wl → Wl.length = V → 0 ≤ most → most ≤ 9223372036854775807 →
      Calls Try.prog 131 #[.pointer (some ⟨q, 0, none⟩), .int .i64 v, .int .i64 most] w (RetCnt w0 w q p V last gi gr gw IL R Wl v most)
  | 0, v, hk, h0, w, Wl, most, D, hA, hl, hm, hm2 => countTop_any D hA hl hV hv h257 hlast hlV v most (by omega) ⟨hm, hm2⟩ (.inl (by omega))
  | k + 1, v, hk, h0, w, Wl, most, D, hA, hl, hm, hm2 => by
    by_cases h : last < v ∨ most = 0
    · exact countTop_any D hA hl hV hv h257 hlast hlV v most (by omega) ⟨hm, hm2⟩ h
    · exact countStep_any D hA hl hV hv h257 hR hn hI hIl v most h0 (by omega) (by omega) ⟨by omega, hm2⟩ fun W Wl2 m D2 hA2 hl2 h1 h2 => count_any hV hv h257 hR hn hI hIl hlast hlV k (v + 1) (by omega) (by omega) W Wl2 m D2 hA2 hl2 h1 (by omega)

/-- The rows without further variables hold for all beginnings of 1 and a front. -/
def preOk (p : Int) (R : List Row3) (front : List Int) : Bool := decide (∀ k, k < front.length + 1 → okAt p R (1 :: front.take k) = true)
theorem preOk_stop {p : Int} {R : List Row3} {front : List Int} {k : Nat} (hk : k ≤ front.length) (h : okAt p R (1 :: front.take k) = false) : preOk p R front = false := by
  unfold preOk
  exact decide_eq_false fun h2 => by rw [h2 k (by omega)] at h; cases h
theorem preOk_all {p : Int} {R : List Row3} {front : List Int} (h : ∀ k, k < front.length + 1 → okAt p R (1 :: front.take k) = true) : preOk p R front = true := decide_eq_true h
/-- What Count answers. -/
def totN (p : Nat) (R : List Row3) (V : Nat) (front : List Int) (most : Int) : Int := if preOk p R front then min most (cnt p R (V - (1 + front.length)) (1 :: front) : Int) else 0
/-- The rows without any variable. -/
theorem okAt_es0 {p V : Nat} {R : List Row3} {Wl : List Int} (hv : vld (p : Int) = true) (hR : ∀ r ∈ R, RowOk p V r) (hW : Wl.take 1 = [1]) : okAt p R [1] = (esV p R Wl 0).all (holdsE p 0) := by
  have hl : 1 ≤ Wl.length := by have := congrArg List.length hW; rw [List.length_take, List.length_singleton] at this; omega
  unfold okAt esV
  rw [List.length_singleton, Nat.sub_self, List.all_map]
  rw [Bool.eq_iff_iff, List.all_eq_true, List.all_eq_true]
  refine forall_congr' fun r => forall_congr' fun hr => ?_
  have hr2 := List.mem_filter.1 hr
  obtain ⟨⟨k1, _⟩, ⟨k2, _⟩, ⟨k3, _⟩⟩ := hR r hr2.1
  have hg : gtR r = 0 := beq_iff_eq.1 hr2.2
  have hg2 := hg
  unfold gtR at hg2
  have val : ∀ x : Lin, LinIn p 0 V x → gtL x = 0 → lnAt p 0 (lnV p Wl 0 x) = lval p [1] x := fun x hx hgx => by
    unfold lnAt lnV
    rw [if_neg (by omega)]
    show (lval p Wl x + 0 * 0) % p = _
    rw [Int.zero_mul, Int.add_zero, Int.emod_eq_of_lt (lval_bds hv _ _).1 (lval_bds hv _ _).2, ← hW]
    by_cases e0 : x = []
    · subst e0; rfl
    · obtain ⟨y, t, rfl, h1, h2, h3, h4⟩ := lin_last hx e0
      exact lval_take hv (fun u hu => by
        rcases List.mem_append.1 hu with hu | hu
        · have := h1 u hu; omega
        · rw [List.mem_singleton] at hu; subst hu; omega) hl
  rw [Function.comp]
  unfold satB holdsE eqnV
  simp only
  rw [val r.a k1 (by omega), val r.b k2 (by omega), val r.c k3 (by omega), fmul_eq hv]
/-- The next element of a front. -/
theorem take_front {front : List Int} {i : Nat} (hi : i < front.length) : 1 :: front.take (i + 1) = (1 :: front.take i) ++ [front.getD i 0] := by
  rw [List.take_succ_eq_append_getElem hi, List.getD_eq_getElem?_getD, List.getElem?_eq_getElem hi]
  rfl
theorem Sl.setOther {w : World} {k : IntKind} {a : Option Addr} {xs : List Int} (h : Sl w k a xs) {g j : Nat} {u : Value} (hn : 0 < xs.length → ∀ b off, a = some ⟨b, off, none⟩ → b ≠ g) : Sl (w.setCell ⟨g, j, none⟩ u) k a xs := fun h0 => by
  obtain ⟨b, off, e, hl, hc⟩ := h h0
  refine ⟨b, off, e, by rw [World.size_setCell]; exact hl, fun i hi => ?_⟩
  rw [World.cell?_setCell_far _ _ _ _ (fun e2 => hn h0 b off e (by simpa using e2.symm))]
  exact hc i hi
end Go.Proofs.Ytlgjnidphldiiaa
