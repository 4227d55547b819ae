/- Gadgets: power and permute of the program. -/
import Derived.Test.YtlgjnidphldiiaaQGadVX
import Derived.Test.YtlgjnidphldiiaaQPermX
namespace Go.Proofs.Ytlgjnidphldiiaa
open Go.RowKit

/-- x to the exponent of the prime. -/
def gPow (S : St) (x : Lin) : St × Lin :=
  if fexp S.p = 5 then (gMul (gMul (gMul S x x) (nv S) (nv S)) (nv (gMul S x x)) x, nv (gMul (gMul S x x) (nv S) (nv S)))
  else if fexp S.p = 7 then (gMul (gMul (gMul (gMul S x x) (nv S) x) (nv (gMul S x x)) (nv (gMul S x x))) (nv (gMul (gMul S x x) (nv S) x)) x, nv (gMul (gMul (gMul S x x) (nv S) x) (nv (gMul S x x)) (nv (gMul S x x))))
  else (gMul (gMul S x x) (nv S) x, nv (gMul S x x))
theorem gPow_p (S : St) (x : Lin) : (gPow S x).1.p = S.p := by
  unfold gPow
  split
  · rfl
  · split <;> rfl
theorem gPow_bd {S : St} {n : Int} (x : Lin) (h : Bd S n) : Bd (gPow S x).1 (n + 8) := by
  unfold gPow
  split
  · exact h.mul.mul.mul.up (by omega)
  · split
    · exact h.mul.mul.mul.mul.up (by omega)
    · exact h.mul.mul.up (by omega)
theorem gPow_len (S : St) (x : Lin) : (gPow S x).2.length = 1 := by
  unfold gPow
  split
  · rfl
  · split <;> rfl
theorem fexp_cases {p : Int} (hv : vld p = true) : fexp p = 3 ∨ fexp p = 5 ∨ fexp p = 7 := by
  rcases vld_cases hv with rfl | rfl | rfl | rfl | rfl | rfl | rfl <;> decide

/-- Three combinations. -/
structure L3 where
  a : Lin
  b : Lin
  c : Lin
def gKon (p r i : Int) (x : Lin) : Lin := addL p x (keepT (0, fred p (fconst p r i)))
def gKon3 (p r : Int) (s : L3) : L3 := ⟨gKon p r 0 s.a, gKon p r 1 s.b, gKon p r 2 s.c⟩
def gPow1 (q : St × L3) : St × L3 := ((gPow q.1 q.2.a).1, ⟨(gPow q.1 q.2.a).2, q.2.b, q.2.c⟩)
def gPow2 (q : St × L3) : St × L3 := ((gPow q.1 q.2.b).1, ⟨q.2.a, (gPow q.1 q.2.b).2, q.2.c⟩)
def gPow3 (q : St × L3) : St × L3 := ((gPow q.1 q.2.c).1, ⟨q.2.a, q.2.b, (gPow q.1 q.2.c).2⟩)
def gSum3 (p : Int) (s : L3) : Lin := addL p (addL p s.a s.b) s.c
def gMix (p : Int) (s : L3) : L3 := ⟨addL p s.a (gSum3 p s), addL p s.b (gSum3 p s), addL p s.c (gSum3 p s)⟩
def gSub (r : Int) (q : St × L3) : St × L3 := gPow3 (gPow2 (gPow1 (q.1, gKon3 q.1.p r q.2)))
def gRound (r : Int) (q : St × L3) : St × L3 := ((gSub r q).1, gMix (gSub r q).1.p (gSub r q).2)
def gPerm : Nat → St × L3 → St × L3
  | 0, q => q
  | k + 1, q => gRound k (gPerm k q)
/-- The lengths stay small. -/
def Sm3 (n : Nat) (s : L3) : Prop := s.a.length ≤ n ∧ s.b.length ≤ n ∧ s.c.length ≤ n
theorem keepT_len (t : Int × Int) : (keepT t).length ≤ 1 := by unfold keepT; split <;> simp
theorem gMix_len {p : Int} {s : L3} (h : Sm3 1 s) : Sm3 4 (gMix p s) := by
  obtain ⟨h1, h2, h3⟩ := h
  have e1 := addP_len p s.a s.b 1
  have e2 := addP_len p (addL p s.a s.b) s.c 1
  have e3 := addP_len p s.a (gSum3 p s) 1
  have e4 := addP_len p s.b (gSum3 p s) 1
  have e5 := addP_len p s.c (gSum3 p s) 1
  unfold gMix gSum3 at *
  unfold addL at *
  exact ⟨by show (addP _ _ _ _).length ≤ 4; omega, by show (addP _ _ _ _).length ≤ 4; omega, by show (addP _ _ _ _).length ≤ 4; omega⟩
theorem gSub_len (r : Int) (q : St × L3) : Sm3 1 (gSub r q).2 := ⟨Nat.le_of_eq (gPow_len _ _), Nat.le_of_eq (gPow_len _ _), Nat.le_of_eq (gPow_len _ _)⟩
theorem gSub_p (r : Int) (q : St × L3) : (gSub r q).1.p = q.1.p := by
  show (gPow (gPow (gPow q.1 _).1 _).1 _).1.p = _
  rw [gPow_p, gPow_p, gPow_p]
theorem gPerm_bd {q : St × L3} {n : Int} (h : Bd q.1 n) : ∀ k : Nat, Bd (gPerm k q).1 (n + 24 * k)
  | 0 => h.up (by omega)
  | k + 1 => (gPow_bd _ (gPow_bd _ (gPow_bd _ (gPerm_bd h k)))).up (by omega)
theorem gPerm_len {q : St × L3} {n : Nat} (h : Sm3 n q.2) (hn : 4 ≤ n) : ∀ k : Nat, Sm3 n (gPerm k q).2
  | 0 => h
  | k + 1 => by
    obtain ⟨h1, h2, h3⟩ := gMix_len (p := (gSub k (gPerm k q)).1.p) (gSub_len k (gPerm k q))
    exact ⟨Nat.le_trans h1 hn, Nat.le_trans h2 hn, Nat.le_trans h3 hn⟩

/-- The state of permute: three combinations in the block q of the call's own, the builder in b. -/
structure PG (w wr : World) (base b q : Nat) (S : St) (x y z : Lc) : Prop where
  kept : Kept base w wr
  bld : Bld wr base b S
  blk : Blk wr q #[lcV x, lcV y, lcV z] 118
  out : Blk wr (q + 1) #[.slice none 0 0, .slice none 0 0, .slice none 0 0] 118
  lx : LinT wr x
  ly : LinT wr y
  lz : LinT wr z
theorem PG.below {w wr w2 : World} {base b q : Nat} {S : St} {x y z : Lc} (h : PG w wr base b q S x y z) (hb : Below wr.heap.size wr w2) : PG w w2 base b q S x y z :=
  ⟨h.kept.trans (Kept.of_below hb h.bld.lt), h.bld.mono hb, h.blk.mono hb, h.out.mono hb, h.lx.mono hb, h.ly.mono hb, h.lz.mono hb⟩
theorem PG.keep {w wr w2 : World} {base b q : Nat} {S S' : St} {x y z : Lc} (h : PG w wr base b q S x y z) (k : Kept base wr w2) (hB : Bld w2 base b S') : PG w w2 base b q S' x y z :=
  ⟨h.kept.trans k, hB, k.typ _ _ _ h.blk (by decide) (by decide) (by decide), k.typ _ _ _ h.out (by decide) (by decide) (by decide), k.lin h.lx, k.lin h.ly, k.lin h.lz⟩
theorem PG.frame {w wr : World} {base b q : Nat} {S : St} {x y z : Lc} (h : PG w wr base b q S x y z) (hq : w.heap.size ≤ q) (hb : base ≤ w.heap.size) (j : Nat) (u : Value) :
    Kept base w (wr.setCell ⟨q, j, none⟩ u) ∧ Bld (wr.setCell ⟨q, j, none⟩ u) base b S ∧ Blk (wr.setCell ⟨q, j, none⟩ u) (q + 1) #[.slice none 0 0, .slice none 0 0, .slice none 0 0] 118 ∧ ∀ s, LinT wr s → LinT (wr.setCell ⟨q, j, none⟩ u) s :=
  ⟨h.kept.setNew hq hb u, h.bld.other h.blk (by decide) (by decide) (by decide) j u (fun s hs _ => hs.setType h.blk (by decide)), h.out.other (by omega) _ _, fun s hs => hs.setType h.blk (by decide)⟩
end Go.Proofs.Ytlgjnidphldiiaa

/- Gadgets: permute of the program. -/
namespace Go.Proofs.Ytlgjnidphldiiaa
open Go.RowKit

def kA (p r : Int) (s : L3) (k : Nat) : L3 := ⟨if 0 < k then gKon p r 0 s.a else s.a, if 1 < k then gKon p r 1 s.b else s.b, if 2 < k then gKon p r 2 s.c else s.c⟩
def pB (q : St × L3) : Nat → St × L3
  | 0 => q
  | 1 => gPow1 q
  | 2 => gPow2 (gPow1 q)
  | _ => gPow3 (gPow2 (gPow1 q))
def mC (p : Int) (t : Lin) (s : L3) (k : Nat) : L3 := ⟨if 0 < k then addL p s.a t else s.a, if 1 < k then addL p s.b t else s.b, if 2 < k then addL p s.c t else s.c⟩
theorem pB_p (q : St × L3) : ∀ k, (pB q k).1.p = q.1.p
  | 0 => rfl
  | 1 => gPow_p _ _
  | 2 => (gPow_p _ _).trans (gPow_p _ _)
  | _ + 3 => ((gPow_p _ _).trans (gPow_p _ _)).trans (gPow_p _ _)
theorem pB_bd {q : St × L3} {n : Int} (h : Bd q.1 n) : ∀ k, Bd (pB q k).1 (n + 24)
  | 0 => h.up (by omega)
  | 1 => (gPow_bd _ h).up (by omega)
  | 2 => (gPow_bd _ (gPow_bd _ h)).up (by omega)
  | _ + 3 => (gPow_bd _ (gPow_bd _ (gPow_bd _ h))).up (by omega)

/-- The result is stored. -/
theorem PG.fin {w wr : World} {base b q : Nat} {S : St} {x y z : Lc} (h : PG w wr base b q S x y z) (hq : w.heap.size ≤ q) (hb : base ≤ w.heap.size) (u0 u1 u2 : Value) :
    Kept base w (((wr.setCell ⟨q + 1, 0, none⟩ u0).setCell ⟨q + 1, 1, none⟩ u1).setCell ⟨q + 1, 2, none⟩ u2) ∧ Bld (((wr.setCell ⟨q + 1, 0, none⟩ u0).setCell ⟨q + 1, 1, none⟩ u1).setCell ⟨q + 1, 2, none⟩ u2) base b S ∧
      LinT (((wr.setCell ⟨q + 1, 0, none⟩ u0).setCell ⟨q + 1, 1, none⟩ u1).setCell ⟨q + 1, 2, none⟩ u2) x ∧ LinT (((wr.setCell ⟨q + 1, 0, none⟩ u0).setCell ⟨q + 1, 1, none⟩ u1).setCell ⟨q + 1, 2, none⟩ u2) y ∧ LinT (((wr.setCell ⟨q + 1, 0, none⟩ u0).setCell ⟨q + 1, 1, none⟩ u1).setCell ⟨q + 1, 2, none⟩ u2) z ∧ True := by
  have key : ∀ (W : World) (cs : Array Value), Kept base w W → Bld W base b S → Blk W (q + 1) cs 118 → ∀ (j : Nat) (u : Value), Kept base w (W.setCell ⟨q + 1, j, none⟩ u) ∧ Bld (W.setCell ⟨q + 1, j, none⟩ u) base b S ∧ ∀ s, LinT W s → LinT (W.setCell ⟨q + 1, j, none⟩ u) s :=
    fun W cs k hB g j u => ⟨k.setNew (by omega) hb u, hB.other g (by decide) (by decide) (by decide) j u (fun s hs _ => hs.setType g (by decide)), fun s hs => hs.setType g (by decide)⟩
  obtain ⟨k1, b1, l1⟩ := key wr _ h.kept h.bld h.out 0 u0
  have g1 := h.out.set 0 u0
  obtain ⟨k2, b2, l2⟩ := key _ _ k1 b1 g1 1 u1
  have g2 := g1.set 1 u1
  obtain ⟨k3, b3, l3⟩ := key _ _ k2 b2 g2 2 u2
  exact ⟨k3, b3, l3 _ (l2 _ (l1 _ h.lx)), l3 _ (l2 _ (l1 _ h.ly)), l3 _ (l2 _ (l1 _ h.lz)), trivial⟩

end Go.Proofs.Ytlgjnidphldiiaa

/- Gadgets: Hash of the program. -/
namespace Go.Proofs.Ytlgjnidphldiiaa
open Go.RowKit

/-- The elements are added, two by two. -/
def gAbs (p : Int) (VL : List Lin) (i j : Nat) (s : L3) : L3 := ⟨if 0 < j ∧ i < VL.length then addL p s.a (VL.getD i []) else s.a, if 1 < j ∧ i + 1 < VL.length then addL p s.b (VL.getD (i + 1) []) else s.b, s.c⟩
def gHashN (p : Int) (VL : List Lin) : Nat → St × L3 → St × L3
  | 0, q => q
  | m + 1, q => gPerm 8 ((gHashN p VL m q).1, gAbs p VL (2 * m) 2 (gHashN p VL m q).2)
def hashM (n : Nat) : Nat := if n = 0 then 1 else (n + 1) / 2
def hashLast (p label : Int) (n : Nat) : Int := fadd p (fmul p label 65536) n
def hash0 (p label : Int) (n : Nat) : L3 := ⟨[], [], keepT (0, fred p (hashLast p label n))⟩
def gHash (S : St) (label : Int) (VL : List Lin) : St × Lin :=
  ((gHashN S.p VL (hashM VL.length) (S, hash0 S.p label VL.length)).1, (gHashN S.p VL (hashM VL.length) (S, hash0 S.p label VL.length)).2.a)
theorem gHashN_bd {p : Int} {VL : List Lin} {q : St × L3} {n : Int} (h : Bd q.1 n) : ∀ m : Nat, Bd (gHashN p VL m q).1 (n + 192 * m)
  | 0 => h.up (by omega)
  | m + 1 => (gPerm_bd (q := ((gHashN p VL m q).1, gAbs p VL (2 * m) 2 (gHashN p VL m q).2)) (gHashN_bd h m) 8).up (by omega)
theorem gAbs_len {p : Int} {VL : List Lin} {i j : Nat} {s : L3} (h : Sm3 4 s) (hl : ∀ x ∈ VL, x.length ≤ 20000) : Sm3 20004 (gAbs p VL i j s) := by
  obtain ⟨h1, h2, h3⟩ := h
  refine ⟨?_, ?_, by show s.c.length ≤ 20004; omega⟩
  · show (if 0 < j ∧ i < VL.length then addL p s.a (VL.getD i []) else s.a).length ≤ 20004
    split
    · rename_i hc
      have := addP_len p s.a (VL.getD i []) 1
      have := hl _ (getD_mem' hc.2 [])
      unfold addL
      omega
    · omega
  · show (if 1 < j ∧ i + 1 < VL.length then addL p s.b (VL.getD (i + 1) []) else s.b).length ≤ 20004
    split
    · rename_i hc
      have := addP_len p s.b (VL.getD (i + 1) []) 1
      have := hl _ (getD_mem' hc.2 [])
      unfold addL
      omega
    · omega
theorem gPerm8_len (q : St × L3) : Sm3 4 (gPerm 8 q).2 := gMix_len (gSub_len _ _)
/-- The state of Hash. -/
structure HS (w wr : World) (base b q : Nat) (S : St) (x y z : Lc) (B : Nat) (v : Value) (Ls : List Lc) : Prop where
  kept : Kept base w wr
  bld : Bld wr base b S
  blk : Blk wr q #[lcV x, lcV y, lcV z] 118
  lx : LinT wr x
  ly : LinT wr y
  lz : LinT wr z
  ow : OwnG lcL wr B 44 v Ls
  ls : ∀ s ∈ Ls, LinT wr s
theorem HS.below {w wr w2 : World} {base b q B : Nat} {S : St} {x y z : Lc} {v : Value} {Ls : List Lc} (h : HS w wr base b q S x y z B v Ls) (hb : Below wr.heap.size wr w2) : HS w w2 base b q S x y z B v Ls :=
  ⟨h.kept.trans (Kept.of_below hb h.bld.lt), h.bld.mono hb, h.blk.mono hb, h.lx.mono hb, h.ly.mono hb, h.lz.mono hb, h.ow.mono hb, fun s hs => (h.ls s hs).mono hb⟩
theorem HS.keep {w wr w2 : World} {base b q B : Nat} {S S' : St} {x y z : Lc} {v : Value} {Ls : List Lc} (h : HS w wr base b q S x y z B v Ls) (k : Kept base wr w2) (hB : Bld w2 base b S') : HS w w2 base b q S' x y z B v Ls :=
  ⟨h.kept.trans k, hB, k.typ _ _ _ h.blk (by decide) (by decide) (by decide), k.lin h.lx, k.lin h.ly, k.lin h.lz, k.ownG h.ow (by decide) (by decide) (by decide), fun s hs => k.lin (h.ls s hs)⟩
theorem HS.set {w wr : World} {base b q B : Nat} {S : St} {x y z : Lc} {v : Value} {Ls : List Lc} (h : HS w wr base b q S x y z B v Ls) (hq : w.heap.size ≤ q) (hb : base ≤ w.heap.size) (j : Nat) (s x' y' z' : Lc)
    (hc : (#[lcV x, lcV y, lcV z] : Array Value).setIfInBounds j (lcV s) = #[lcV x', lcV y', lcV z']) (hx : LinT wr x') (hy : LinT wr y') (hz : LinT wr z') : HS w (wr.setCell ⟨q, j, none⟩ (lcV s)) base b q S x' y' z' B v Ls := by
  have l2 : ∀ t, LinT wr t → LinT (wr.setCell ⟨q, j, none⟩ (lcV s)) t := fun t ht => ht.setType h.blk (by decide)
  refine ⟨h.kept.setNew hq hb _, h.bld.other h.blk (by decide) (by decide) (by decide) j _ (fun t ht _ => l2 t ht), ?_, l2 _ hx, l2 _ hy, l2 _ hz, h.ow.other (h.ow.neq h.blk (by decide)) _, fun t ht => l2 t (h.ls t ht)⟩
  have := h.blk.set j (lcV s)
  rw [hc] at this
  exact this
theorem hashM_pos (n : Nat) : 1 ≤ hashM n := by unfold hashM; split <;> omega
theorem hashM_lt {n m : Nat} (h : m < hashM n) : m = 0 ∨ 2 * m < n := by unfold hashM at h; split at h <;> omega
theorem hashM_ge {n : Nat} : n ≤ 2 * hashM n ∧ hashM n ≤ n + 1 := by unfold hashM; split <;> omega

end Go.Proofs.Ytlgjnidphldiiaa
