/- Gadgets: Bits of the program. -/
import Derived.Test.YtlflkddgdbdebaaGadJ
namespace Go.Proofs.Ytlflkddgdbdebaa
open Go.RowKit

/-- The bits, on values. -/
def bitsS (S : St) (x : Lin) : Nat → St
  | 0 => S
  | k + 1 => gBool (gHint (bitsS S x k) 3 x [] k) (nv (bitsS S x k))
def bitT (S : St) (i : Nat) : Int × Int := (S.vars + i, fred S.p ((2 : Int) ^ i))
def bitsSum (S : St) (n : Nat) : Lin := (List.range n).map (bitT S)
def bitsL (S : St) (n : Nat) : List Lin := (List.range n).map fun (i : Nat) => [(S.vars + (i : Int), 1)]
def gBits (S : St) (x : Lin) (n : Nat) : St := gAssert (bitsS S x n) (bitsSum S n) x
theorem bitsS_vars (S : St) (x : Lin) : ∀ k : Nat, (bitsS S x k).vars = S.vars + k
  | 0 => by simp [bitsS]
  | k + 1 => by
    show (bitsS S x k).vars + 1 = _
    rw [bitsS_vars S x k]; omega
theorem bitsS_p (S : St) (x : Lin) : ∀ k : Nat, (bitsS S x k).p = S.p
  | 0 => rfl
  | k + 1 => bitsS_p S x k
theorem bitsS_bd {S : St} {n : Int} (h : Bd S n) (x : Lin) : ∀ k : Nat, Bd (bitsS S x k) (n + 2 * k)
  | 0 => h.up (by omega)
  | k + 1 => ((bitsS_bd h x k).hint.row).up (by omega)
theorem bitsSum_len (S : St) (n : Nat) : (bitsSum S n).length = n := by simp [bitsSum]
theorem bitsSum_next (S : St) (n k : Nat) (h : k < n) : ((bitsSum S k) ++ List.replicate (n - k) (0, 0)).set k (bitT S k) = bitsSum S (k + 1) ++ List.replicate (n - (k + 1)) (0, 0) := by
  obtain ⟨m, hm⟩ : ∃ m, n - k = m + 1 := ⟨n - k - 1, by omega⟩
  rw [hm, show n - (k + 1) = m by omega, List.replicate_succ, List.set_append_right _ _ (by rw [bitsSum_len]; exact Nat.le_refl _), bitsSum_len, Nat.sub_self, List.set_cons_zero]
  unfold bitsSum
  rw [List.range_succ, List.map_append]
  simp

/-- One term of one variable stays where a pair of zero cells is overwritten. -/
theorem LinT.skip {w : World} {s : Lc} {v : Int} {g k : Nat} {u u' : Value} (h : LinT w s) (hl : s.l = [(v, 1)]) (c0 : w.cell? ⟨g, k * 2, none⟩ = some (.int .i64 0)) (c1 : w.cell? ⟨g, k * 2 + 1, none⟩ = some (.int .u64 0)) :
    LinT ((w.setCell ⟨g, k * 2, none⟩ u).setCell ⟨g, k * 2 + 1, none⟩ u') s := by
  obtain ⟨b, off, cs', e2, g2⟩ := h.blk (by rw [hl]; simp)
  obtain ⟨b', off', e3, hlt, hc⟩ := h.ok.sl (by rw [hl]; simp)
  rw [e2] at e3
  cases e3
  have h0 := hc 0 (by rw [hl]; simp)
  rw [hl] at h0
  simp only [Nat.zero_mul, Nat.add_zero, List.getD_cons_zero] at h0
  have hz : ∀ j, (j = 0 ∨ j = 1) → ((w.setCell ⟨g, k * 2, none⟩ u).setCell ⟨g, k * 2 + 1, none⟩ u').cell? ⟨b, off + j, none⟩ = w.cell? ⟨b, off + j, none⟩ := fun j hj => by
    by_cases hb : g = b
    · subst hb
      have n1 : off ≠ k * 2 := fun e => by
        have := h0.2
        rw [e, c1] at this
        cases this
      have n2 : off ≠ k * 2 + 1 := fun e => by
        have := h0.1
        rw [e, c1] at this
        cases this
      have n3 : off + 1 ≠ k * 2 := fun e => by
        have := h0.2
        rw [e, c0] at this
        cases this
      have n4 : off + j ≠ k * 2 ∧ off + j ≠ k * 2 + 1 := by rcases hj with rfl | rfl <;> omega
      have q1 : (⟨g, k * 2 + 1, none⟩ : Addr) ≠ ⟨g, off + j, none⟩ := fun e => by injection e with _ e _; omega
      have q2 : (⟨g, k * 2, none⟩ : Addr) ≠ ⟨g, off + j, none⟩ := fun e => by injection e with _ e _; omega
      rw [World.cell?_setCell_other _ _ _ _ q1, World.cell?_setCell_other _ _ _ _ q2]
    · rw [World.cell?_setCell_far _ _ _ _ hb, World.cell?_setCell_far _ _ _ _ hb]
  have hlen : s.l.length = 1 := by rw [hl]; rfl
  refine ⟨⟨fun _ => ⟨b, off, e2, by simpa using hlt, fun i hi => ?_⟩, h.ok.wl, h.ok.le, h.ok.mx⟩, fun _ => ?_⟩
  · obtain rfl : i = 0 := by omega
    rw [hl]
    simp only [Nat.zero_mul, Nat.add_zero, List.getD_cons_zero]
    have z0 := hz 0 (.inl rfl)
    have z1 := hz 1 (.inr rfl)
    rw [Nat.add_zero] at z0
    exact ⟨z0.trans h0.1, z1.trans h0.2⟩
  · by_cases hb : g = b
    · subst hb
      exact ⟨g, off, _, e2, (g2.set _ _).set _ _⟩
    · exact ⟨b, off, _, e2, (g2.other hb _ _).other hb _ _⟩

def q3 (S : St) (k : Nat) : Int := S.vars + (k : Int) + 1
/-- The loop of Bits. -/
structure BitSt (w wr : World) (base b : Nat) (S : St) (x : Lin) (n k gb gs : Nat) (Ls : List Lc) : Prop where
  kept : Kept base w wr
  bld : Bld wr base b (bitsS S x k) (fun q => False ∨ q = gs)
  bits : OwnG lcL wr w.heap.size 40 (.slice (some ⟨gb, 0, none⟩) n n) Ls
  sum : OwnG tmL wr w.heap.size 53 (.slice (some ⟨gs, 0, none⟩) n n) (bitsSum S k ++ List.replicate (n - k) (0, 0))
  lb : ∀ i, i < k → LinT wr (Ls.getD i default) ∧ (Ls.getD i default).l = [(S.vars + (i : Int), 1)]

/-- What Bits returns. -/
def RetBits (w : World) (base b : Nat) (S : St) (x : Lin) (n : Nat) (e : Ending) (w' : World) : Prop := ∃ v Ls, e = .returned v ∧ OwnG lcL w' w.heap.size 40 v Ls ∧ Ls.length = n ∧ (∀ i, i < n → LinT w' (Ls.getD i default) ∧ (Ls.getD i default).l = [(S.vars + (i : Int), 1)]) ∧ Bld w' base b (gBits S x n) ∧ Kept base w w'