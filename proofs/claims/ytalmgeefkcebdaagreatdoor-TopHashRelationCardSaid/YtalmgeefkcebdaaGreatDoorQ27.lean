/- Gadgets: power and permute of the program. -/
import Derived.Test.YtalmgeefkcebdaaGreatDoorQ26
namespace Go.Proofs.YtalmgeefkcebdaaGreatDoor
open Go.RowKit

/-- x to the exponent of the prime. -/
def gPow (S : St) (x : Lin) : St × Lin :=
  if fexp S.p = 5 then (gMul (gMul (gMul S x x) (nv S) (nv S)) (nv (gMul S x x)) x, nv (gMul (gMul S x x) (nv S) (nv S)))
  else if fexp S.p = 7 then (gMul (gMul (gMul (gMul S x x) (nv S) x) (nv (gMul S x x)) (nv (gMul S x x))) (nv (gMul (gMul S x x) (nv S) x)) x, nv (gMul (gMul (gMul S x x) (nv S) x) (nv (gMul S x x)) (nv (gMul S x x))))
  else (gMul (gMul S x x) (nv S) x, nv (gMul S x x))
theorem gPow_p (S : St) (x : Lin) : (gPow S x).1.p = S.p := by
  unfold gPow
  split
  · rfl
  · split <;> rfl
theorem gPow_bd {S : St} {n : Int} (x : Lin) (h : Bd S n) : Bd (gPow S x).1 (n + 8) := by
  unfold gPow
  split
  · exact h.mul.mul.mul.up (by omega)
  · split
    · exact h.mul.mul.mul.mul.up (by omega)
    · exact h.mul.mul.up (by omega)
theorem gPow_len (S : St) (x : Lin) : (gPow S x).2.length = 1 := by
  unfold gPow
  split
  · rfl
  · split <;> rfl
theorem fexp_cases {p : Int} (hv : vld p = true) : fexp p = 3 ∨ fexp p = 5 ∨ fexp p = 7 := by
  rcases vld_cases hv with rfl | rfl | rfl | rfl | rfl | rfl | rfl <;> decide

set_option maxRecDepth 10000 in
set_option maxHeartbeats 16000000 in
theorem power20_any (base b : Nat) (S : St) (N : Int) (x : Lc) (w : World) (h : Bld w base b S) (hv : vld S.p = true) (hS : Bd S N) (hN : N ≤ 900000000) (hx : LinT w x) (lx : x.l.length ≤ 100000) :
    Calls Tryz.prog 227 #[.pointer (some ⟨b, 0, none⟩), .slice x.ad x.l.length x.cap] w (RetB w base b (gPow S x.l).1 (gPow S x.l).2) := by
  have cM := Mul20_any base b S N x x w h hv hS (by omega) hx hx (by omega) (by omega)
  have cE := fun W => Exponent_any S.p W
  have hE := fexp_cases hv
  have key : gPow S x.l = (if fexp S.p = 5 then (gMul (gMul (gMul S x.l x.l) (nv S) (nv S)) (nv (gMul S x.l x.l)) x.l, nv (gMul (gMul S x.l x.l) (nv S) (nv S)))
    else if fexp S.p = 7 then (gMul (gMul (gMul (gMul S x.l x.l) (nv S) x.l) (nv (gMul S x.l x.l)) (nv (gMul S x.l x.l))) (nv (gMul (gMul S x.l x.l) (nv S) x.l)) x.l, nv (gMul (gMul (gMul S x.l x.l) (nv S) x.l) (nv (gMul S x.l x.l)) (nv (gMul S x.l x.l))))
    else (gMul (gMul S x.l x.l) (nv S) x.l, nv (gMul S x.l x.l))) := rfl
  rw [key]
  clear key
  generalize fexp S.p = E at *
  go_enter Tryz.func227, Tryz.ntmps227
  go_wp2_with fail
  refine cM.mono ?_
  rintro e w1 ⟨a, rfl, ea, ha, hB1, k1⟩
  obtain ⟨cs, g1, h01⟩ := hB1.cell0
  have c0 := g1.cell h01
  have la : Hid (a.l.length ≤ 1) := hide (by rw [ea.out]; exact Nat.le_refl _)
  have hx1 := k1.lin hx
  have b1 := hS.mul (x := x.l) (y := x.l)
  clear cM
  go_wp2_with fail
  refine (cE w1).mono ?_
  rintro e w2 ⟨rfl, hb2⟩
  have hB2 := hB1.mono hb2
  have ha2 := ha.mono hb2
  have hx2 := hx1.mono hb2
  have k2 := k1.trans (Kept.of_below hb2 hB1.lt)
  clear cE c0 g1 h01 ha hx1 hB1 k1 hb2
  obtain rfl | rfl | rfl := hE
  · have cM := Mul20_any base b (gMul S x.l x.l) _ a x w2 hB2 hv b1 (by omega) ha2 hx2 (by have := la.out; omega) (by omega)
    go_wp2_with fail
    refine cM.mono ?_
    rintro e w3 ⟨c, rfl, ec, hc, hB3, k3⟩
    rw [ea.out] at hB3
    go_wp2
    go_ret
    exact ⟨c, rfl, ec, hc, hB3, k2.trans k3⟩
  · have cM := Mul20_any base b (gMul S x.l x.l) _ a a w2 hB2 hv b1 (by omega) ha2 ha2 (by have := la.out; omega) (by have := la.out; omega)
    go_wp2_with fail
    refine cM.mono ?_
    rintro e w3 ⟨c, rfl, ec, hc, hB3, k3⟩
    rw [ea.out] at hB3
    have lc : Hid (c.l.length ≤ 1) := hide (by rw [ec.out]; exact Nat.le_refl _)
    have cM2 := Mul20_any base b _ _ c x w3 hB3 hv (b1.mul (x := nv S) (y := nv S)) (by omega) hc (k3.lin hx2) (by have := lc.out; omega) (by omega)
    clear cM
    go_wp2_with fail
    refine cM2.mono ?_
    rintro e w4 ⟨d, rfl, ed, hd, hB4, k4⟩
    rw [ec.out] at hB4
    go_wp2
    go_ret
    exact ⟨d, rfl, ed, hd, hB4, (k2.trans k3).trans k4⟩
  · have cM := Mul20_any base b (gMul S x.l x.l) _ a x w2 hB2 hv b1 (by omega) ha2 hx2 (by have := la.out; omega) (by omega)
    go_wp2_with fail
    refine cM.mono ?_
    rintro e w3 ⟨c, rfl, ec, hc, hB3, k3⟩
    rw [ea.out] at hB3
    have lc : Hid (c.l.length ≤ 1) := hide (by rw [ec.out]; exact Nat.le_refl _)
    have b3 := b1.mul (x := nv S) (y := x.l)
    have cM2 := Mul20_any base b _ _ c c w3 hB3 hv b3 (by omega) hc hc (by have := lc.out; omega) (by have := lc.out; omega)
    clear cM
    go_wp2_with fail
    refine cM2.mono ?_
    rintro e w4 ⟨d, rfl, ed, hd, hB4, k4⟩
    rw [ec.out] at hB4
    have ld : Hid (d.l.length ≤ 1) := hide (by rw [ed.out]; exact Nat.le_refl _)
    have cM3 := Mul20_any base b _ _ d x w4 hB4 hv (b3.mul (x := nv (gMul S x.l x.l)) (y := nv (gMul S x.l x.l))) (by omega) hd (k4.lin (k3.lin hx2)) (by have := ld.out; omega) (by omega)
    clear cM2
    go_wp2_with fail
    refine cM3.mono ?_
    rintro e w5 ⟨f, rfl, ef, hf, hB5, k5⟩
    rw [ed.out] at hB5
    go_wp2
    go_ret
    exact ⟨f, rfl, ef, hf, hB5, ((k2.trans k3).trans k4).trans k5⟩
/-- Three combinations. -/
structure L3 where
  a : Lin
  b : Lin
  c : Lin
def gKon (p r i : Int) (x : Lin) : Lin := addL p x (keepT (0, fred p (fconst p r i)))
def gKon3 (p r : Int) (s : L3) : L3 := ⟨gKon p r 0 s.a, gKon p r 1 s.b, gKon p r 2 s.c⟩
def gPow1 (q : St × L3) : St × L3 := ((gPow q.1 q.2.a).1, ⟨(gPow q.1 q.2.a).2, q.2.b, q.2.c⟩)
def gPow2 (q : St × L3) : St × L3 := ((gPow q.1 q.2.b).1, ⟨q.2.a, (gPow q.1 q.2.b).2, q.2.c⟩)
def gPow3 (q : St × L3) : St × L3 := ((gPow q.1 q.2.c).1, ⟨q.2.a, q.2.b, (gPow q.1 q.2.c).2⟩)
def gSum3 (p : Int) (s : L3) : Lin := addL p (addL p s.a s.b) s.c
def gMix (p : Int) (s : L3) : L3 := ⟨addL p s.a (gSum3 p s), addL p s.b (gSum3 p s), addL p s.c (gSum3 p s)⟩
def gSub (r : Int) (q : St × L3) : St × L3 := gPow3 (gPow2 (gPow1 (q.1, gKon3 q.1.p r q.2)))
def gRound (r : Int) (q : St × L3) : St × L3 := ((gSub r q).1, gMix (gSub r q).1.p (gSub r q).2)
def gPerm : Nat → St × L3 → St × L3
  | 0, q => q
  | k + 1, q => gRound k (gPerm k q)
/-- The lengths stay small. -/
def Sm3 (n : Nat) (s : L3) : Prop := s.a.length ≤ n ∧ s.b.length ≤ n ∧ s.c.length ≤ n
theorem keepT_len (t : Int × Int) : (keepT t).length ≤ 1 := by unfold keepT; split <;> simp
theorem gKon_len (p r i : Int) (x : Lin) : (gKon p r i x).length ≤ x.length + 1 := by
  have := addP_len p x (keepT (0, fred p (fconst p r i))) 1
  have := keepT_len (0, fred p (fconst p r i))
  unfold gKon addL
  omega
theorem gMix_len {p : Int} {s : L3} (h : Sm3 1 s) : Sm3 4 (gMix p s) := by
  obtain ⟨h1, h2, h3⟩ := h
  have e1 := addP_len p s.a s.b 1
  have e2 := addP_len p (addL p s.a s.b) s.c 1
  have e3 := addP_len p s.a (gSum3 p s) 1
  have e4 := addP_len p s.b (gSum3 p s) 1
  have e5 := addP_len p s.c (gSum3 p s) 1
  unfold gMix gSum3 at *
  unfold addL at *
  exact ⟨by show (addP _ _ _ _).length ≤ 4; omega, by show (addP _ _ _ _).length ≤ 4; omega, by show (addP _ _ _ _).length ≤ 4; omega⟩
theorem gSub_len (r : Int) (q : St × L3) : Sm3 1 (gSub r q).2 := ⟨Nat.le_of_eq (gPow_len _ _), Nat.le_of_eq (gPow_len _ _), Nat.le_of_eq (gPow_len _ _)⟩
theorem gSub_p (r : Int) (q : St × L3) : (gSub r q).1.p = q.1.p := by
  show (gPow (gPow (gPow q.1 _).1 _).1 _).1.p = _
  rw [gPow_p, gPow_p, gPow_p]
theorem gPerm_p (q : St × L3) : ∀ k : Nat, (gPerm k q).1.p = q.1.p
  | 0 => rfl
  | k + 1 => (gSub_p _ _).trans (gPerm_p q k)
theorem gPerm_bd {q : St × L3} {n : Int} (h : Bd q.1 n) : ∀ k : Nat, Bd (gPerm k q).1 (n + 24 * k)
  | 0 => h.up (by omega)
  | k + 1 => (gPow_bd _ (gPow_bd _ (gPow_bd _ (gPerm_bd h k)))).up (by omega)
theorem gPerm_len {q : St × L3} {n : Nat} (h : Sm3 n q.2) (hn : 4 ≤ n) : ∀ k : Nat, Sm3 n (gPerm k q).2
  | 0 => h
  | k + 1 => by
    obtain ⟨h1, h2, h3⟩ := gMix_len (p := (gSub k (gPerm k q)).1.p) (gSub_len k (gPerm k q))
    exact ⟨Nat.le_trans h1 hn, Nat.le_trans h2 hn, Nat.le_trans h3 hn⟩

/-- The state of permute: three combinations in the block q of the call's own, the builder in b. -/
structure PG (w wr : World) (base b q : Nat) (S : St) (x y z : Lc) : Prop where
  kept : Kept base w wr
  bld : Bld wr base b S
  blk : Blk wr q #[lcV x, lcV y, lcV z] 281
  out : Blk wr (q + 1) #[.slice none 0 0, .slice none 0 0, .slice none 0 0] 281
  lx : LinT wr x
  ly : LinT wr y
  lz : LinT wr z
theorem PG.below {w wr w2 : World} {base b q : Nat} {S : St} {x y z : Lc} (h : PG w wr base b q S x y z) (hb : Below wr.heap.size wr w2) : PG w w2 base b q S x y z :=
  ⟨h.kept.trans (Kept.of_below hb h.bld.lt), h.bld.mono hb, h.blk.mono hb, h.out.mono hb, h.lx.mono hb, h.ly.mono hb, h.lz.mono hb⟩
theorem PG.keep {w wr w2 : World} {base b q : Nat} {S S' : St} {x y z : Lc} (h : PG w wr base b q S x y z) (k : Kept base wr w2) (hB : Bld w2 base b S') : PG w w2 base b q S' x y z :=
  ⟨h.kept.trans k, hB, k.typ _ _ _ h.blk (by decide) (by decide) (by decide), k.typ _ _ _ h.out (by decide) (by decide) (by decide), k.lin h.lx, k.lin h.ly, k.lin h.lz⟩
theorem PG.frame {w wr : World} {base b q : Nat} {S : St} {x y z : Lc} (h : PG w wr base b q S x y z) (hq : w.heap.size ≤ q) (hb : base ≤ w.heap.size) (j : Nat) (u : Value) :
    Kept base w (wr.setCell ⟨q, j, none⟩ u) ∧ Bld (wr.setCell ⟨q, j, none⟩ u) base b S ∧ Blk (wr.setCell ⟨q, j, none⟩ u) (q + 1) #[.slice none 0 0, .slice none 0 0, .slice none 0 0] 281 ∧ ∀ s, LinT wr s → LinT (wr.setCell ⟨q, j, none⟩ u) s :=
  ⟨h.kept.setNew hq hb u, h.bld.other h.blk (by decide) (by decide) (by decide) j u (fun s hs _ => hs.setType h.blk (by decide)), h.out.other (by omega) _ _, fun s hs => hs.setType h.blk (by decide)⟩
theorem PG.set0 {w wr : World} {base b q : Nat} {S : St} {x y z s : Lc} (h : PG w wr base b q S x y z) (hq : w.heap.size ≤ q) (hb : base ≤ w.heap.size) (hs : LinT wr s) : PG w (wr.setCell ⟨q, 0, none⟩ (lcV s)) base b q S s y z := by
  obtain ⟨f1, f2, f3, f4⟩ := h.frame hq hb 0 (lcV s)
  exact ⟨f1, f2, h.blk.set 0 (lcV s), f3, f4 _ hs, f4 _ h.ly, f4 _ h.lz⟩
theorem PG.set1 {w wr : World} {base b q : Nat} {S : St} {x y z s : Lc} (h : PG w wr base b q S x y z) (hq : w.heap.size ≤ q) (hb : base ≤ w.heap.size) (hs : LinT wr s) : PG w (wr.setCell ⟨q, 1, none⟩ (lcV s)) base b q S x s z := by
  obtain ⟨f1, f2, f3, f4⟩ := h.frame hq hb 1 (lcV s)
  exact ⟨f1, f2, h.blk.set 1 (lcV s), f3, f4 _ h.lx, f4 _ hs, f4 _ h.lz⟩
theorem PG.set2 {w wr : World} {base b q : Nat} {S : St} {x y z s : Lc} (h : PG w wr base b q S x y z) (hq : w.heap.size ≤ q) (hb : base ≤ w.heap.size) (hs : LinT wr s) : PG w (wr.setCell ⟨q, 2, none⟩ (lcV s)) base b q S x y s := by
  obtain ⟨f1, f2, f3, f4⟩ := h.frame hq hb 2 (lcV s)
  exact ⟨f1, f2, h.blk.set 2 (lcV s), f3, f4 _ h.lx, f4 _ h.ly, f4 _ hs⟩

def kA (p r : Int) (s : L3) (k : Nat) : L3 := ⟨if 0 < k then gKon p r 0 s.a else s.a, if 1 < k then gKon p r 1 s.b else s.b, if 2 < k then gKon p r 2 s.c else s.c⟩
def pB (q : St × L3) : Nat → St × L3
  | 0 => q
  | 1 => gPow1 q
  | 2 => gPow2 (gPow1 q)
  | _ => gPow3 (gPow2 (gPow1 q))
def mC (p : Int) (t : Lin) (s : L3) (k : Nat) : L3 := ⟨if 0 < k then addL p s.a t else s.a, if 1 < k then addL p s.b t else s.b, if 2 < k then addL p s.c t else s.c⟩
theorem pB_p (q : St × L3) : ∀ k, (pB q k).1.p = q.1.p
  | 0 => rfl
  | 1 => gPow_p _ _
  | 2 => (gPow_p _ _).trans (gPow_p _ _)
  | _ + 3 => ((gPow_p _ _).trans (gPow_p _ _)).trans (gPow_p _ _)
theorem pB_bd {q : St × L3} {n : Int} (h : Bd q.1 n) : ∀ k, Bd (pB q k).1 (n + 24)
  | 0 => h.up (by omega)
  | 1 => (gPow_bd _ h).up (by omega)
  | 2 => (gPow_bd _ (gPow_bd _ h)).up (by omega)
  | _ + 3 => (gPow_bd _ (gPow_bd _ (gPow_bd _ h))).up (by omega)

def RetP (w : World) (base b : Nat) (q : St × L3) (e : Ending) (w' : World) : Prop := ∃ x y z : Lc, e = .returned (.agg #[lcV x, lcV y, lcV z]) ∧ Hid ((⟨x.l, y.l, z.l⟩ : L3) = q.2) ∧ LinT w' x ∧ LinT w' y ∧ LinT w' z ∧ Bld w' base b q.1 ∧ Kept base w w'

/-- The result is stored. -/
theorem PG.fin {w wr : World} {base b q : Nat} {S : St} {x y z : Lc} (h : PG w wr base b q S x y z) (hq : w.heap.size ≤ q) (hb : base ≤ w.heap.size) (u0 u1 u2 : Value) :
    Kept base w (((wr.setCell ⟨q + 1, 0, none⟩ u0).setCell ⟨q + 1, 1, none⟩ u1).setCell ⟨q + 1, 2, none⟩ u2) ∧ Bld (((wr.setCell ⟨q + 1, 0, none⟩ u0).setCell ⟨q + 1, 1, none⟩ u1).setCell ⟨q + 1, 2, none⟩ u2) base b S ∧
      LinT (((wr.setCell ⟨q + 1, 0, none⟩ u0).setCell ⟨q + 1, 1, none⟩ u1).setCell ⟨q + 1, 2, none⟩ u2) x ∧ LinT (((wr.setCell ⟨q + 1, 0, none⟩ u0).setCell ⟨q + 1, 1, none⟩ u1).setCell ⟨q + 1, 2, none⟩ u2) y ∧ LinT (((wr.setCell ⟨q + 1, 0, none⟩ u0).setCell ⟨q + 1, 1, none⟩ u1).setCell ⟨q + 1, 2, none⟩ u2) z ∧ True := by
  have key : ∀ (W : World) (cs : Array Value), Kept base w W → Bld W base b S → Blk W (q + 1) cs 281 → ∀ (j : Nat) (u : Value), Kept base w (W.setCell ⟨q + 1, j, none⟩ u) ∧ Bld (W.setCell ⟨q + 1, j, none⟩ u) base b S ∧ ∀ s, LinT W s → LinT (W.setCell ⟨q + 1, j, none⟩ u) s :=
    fun W cs k hB g j u => ⟨k.setNew (by omega) hb u, hB.other g (by decide) (by decide) (by decide) j u (fun s hs _ => hs.setType g (by decide)), fun s hs => hs.setType g (by decide)⟩
  obtain ⟨k1, b1, l1⟩ := key wr _ h.kept h.bld h.out 0 u0
  have g1 := h.out.set 0 u0
  obtain ⟨k2, b2, l2⟩ := key _ _ k1 b1 g1 1 u1
  have g2 := g1.set 1 u1
  obtain ⟨k3, b3, l3⟩ := key _ _ k2 b2 g2 2 u2
  exact ⟨k3, b3, l3 _ (l2 _ (l1 _ h.lx)), l3 _ (l2 _ (l1 _ h.ly)), l3 _ (l2 _ (l1 _ h.lz)), trivial⟩

set_option maxRecDepth 10000 in
set_option maxHeartbeats 64000000 in
theorem permute20_any (base b : Nat) (S : St) (N : Int) (x y z : Lc) (w : World) (h : Bld w base b S) (hv : vld S.p = true) (hS : Bd S N) (hN : N ≤ 800000000) (hx : LinT w x) (hy : LinT w y) (hz : LinT w z) (hl : Sm3 30000 ⟨x.l, y.l, z.l⟩) :
    Calls Tryz.prog 201 #[.pointer (some ⟨b, 0, none⟩), .agg #[.slice x.ad x.l.length x.cap, .slice y.ad y.l.length y.cap, .slice z.ad z.l.length z.cap]] w (RetP w base b (gPerm 8 (S, ⟨x.l, y.l, z.l⟩))) := by
  have hb0 := h.lt
  obtain ⟨p, hp⟩ : ∃ p, p = S.p := ⟨_, rfl⟩
  obtain ⟨Q, hQ⟩ : ∃ Q : St × L3, Q = (S, ⟨x.l, y.l, z.l⟩) := ⟨_, rfl⟩
  have hQp : ∀ k, (gPerm k Q).1.p = p := fun k => by rw [gPerm_p, hQ, hp]
  have hQb : ∀ k : Nat, Bd (gPerm k Q).1 (N + 24 * k) := fun k => gPerm_bd (q := Q) (by rw [hQ]; exact hS) k
  have hQl : ∀ k, Sm3 30000 (gPerm k Q).2 := fun k => gPerm_len (q := Q) (by rw [hQ]; exact hl) (by decide) k
  obtain ⟨cs, g, hc0⟩ := h.cell0
  rw [← hp] at hc0 hv
  rw [← hQ]
  have c0 : ((w.alloc (.cells #[.slice x.ad x.l.length x.cap, .slice y.ad y.l.length y.cap, .slice z.ad z.l.length z.cap] 281)).alloc (.cells #[.slice none 0 0, .slice none 0 0, .slice none 0 0] 281)).cell? ⟨b, 0, none⟩ = some (.int .u64 p) := ((g.alloc _).alloc _).cell hc0
  have hP : PG w ((w.alloc (.cells #[.slice x.ad x.l.length x.cap, .slice y.ad y.l.length y.cap, .slice z.ad z.l.length z.cap] 281)).alloc (.cells #[.slice none 0 0, .slice none 0 0, .slice none 0 0] 281)) base b w.heap.size S x y z := by
    have hb : Below w.heap.size w ((w.alloc (.cells #[.slice x.ad x.l.length x.cap, .slice y.ad y.l.length y.cap, .slice z.ad z.l.length z.cap] 281)).alloc (.cells #[.slice none 0 0, .slice none 0 0, .slice none 0 0] 281)) := ((Below.refl _ _).alloc (Nat.le_refl _) _).alloc (by simp) _
    exact ⟨Kept.of_below hb hb0, h.mono hb, (Blk.newAt rfl).alloc _, Blk.newAt (by simp), hx.mono hb, hy.mono hb, hz.mono hb⟩
  have hP0 : PG w ((w.alloc (.cells #[.slice x.ad x.l.length x.cap, .slice y.ad y.l.length y.cap, .slice z.ad z.l.length z.cap] 281)).alloc (.cells #[.slice none 0 0, .slice none 0 0, .slice none 0 0] 281)) base b w.heap.size (gPerm 0 Q).1 x y z := by rw [hQ]; exact hP
  have hE0 : Hid ((⟨x.l, y.l, z.l⟩ : L3) = (gPerm 0 Q).2) := hide (by rw [hQ]; rfl)
  replace hp := hide hp
  replace hQ := hide hQ
  replace hQp := hide hQp
  replace hQb := hide hQb
  replace hQl := hide hQl
  clear h hS hl hP hx hy hz hc0 g
  go_enter Tryz.func201, Tryz.ntmps201
  go_wp2_with fail
  go_loopw [16] (fun t16 wr => ∃ r : Nat, r ≤ 8 ∧ t16 = .int .i64 r ∧ ∃ x y z : Lc, PG w wr base b w.heap.size (gPerm r Q).1 x y z ∧ Hid ((⟨x.l, y.l, z.l⟩ : L3) = (gPerm r Q).2)) (fun t16 _ => 8 - (intOf t16).toNat)
  case atStart => exact ⟨0, by omega, rfl, x, y, z, hP0, hE0⟩
  case round =>
    clear hP0 hE0 c0
    obtain ⟨r, hr, rfl, x, y, z, P, hE⟩ := hrel
    by_cases hlt : r < 8
    · have hlt' : (r : Int) < 8 := by omega
      have hS1 := hQp.out r
      have hS2 := hQb.out r
      have hS3 := hQl.out r
      have hnx : Hid (gPerm (r + 1) Q = gRound r (gPerm r Q)) := hide rfl
      obtain ⟨QN, hQNd⟩ : ∃ QN, QN = gPerm (r + 1) Q := ⟨_, rfl⟩
      rw [← hQNd] at hnx
      replace hQNd := hide hQNd
      obtain ⟨⟨S1, s⟩, hq⟩ : ∃ q : St × L3, q = gPerm r Q := ⟨_, rfl⟩
      rw [← hq] at hS1 hS2 hS3 hnx P hE
      simp only at hS1 hS2 hS3 P hE
      replace hq := hide hq
      have hv1 : vld S1.p = true := by rw [hS1]; exact hv
      replace hS1 := hide hS1
      have hE' : Hid ((⟨x.l, y.l, z.l⟩ : L3) = kA p r s 0) := hE
      go_wp2_with fail
      go_loopw [19] (fun t19 wr => ∃ k : Nat, k ≤ 3 ∧ t19 = .int .i64 k ∧ ∃ x y z : Lc, PG w wr base b w.heap.size S1 x y z ∧ Hid ((⟨x.l, y.l, z.l⟩ : L3) = kA p r s k)) (fun t19 _ => 3 - (intOf t19).toNat)
      case atStart => exact ⟨0, by omega, rfl, x, y, z, P, hE'⟩
      case round =>
        clear P hE hE'
        obtain ⟨k, hk, rfl, x, y, z, P, hE⟩ := hrel
        by_cases hlt3 : k < 3
        · obtain rfl | rfl | rfl : k = 0 ∨ k = 1 ∨ k = 2 := by omega
          · have hel : Hid (x.l = s.a) := hide (by have := congrArg L3.a hE.out; exact this)
            have hsl : x.l.length ≤ 30000 := by rw [hel.out]; have := hS3; unfold Sm3 at this; omega
            have km := cell_later' (P.blk.cell (j := 0) (v := .slice x.ad x.l.length x.cap) rfl)
            have cK := fun P' => Constant_any p r 0 (later wr P')
            have kb := fconst_bd p r 0
            have lm := P.lx
            obtain ⟨kc, hkc⟩ : ∃ kc, kc = fconst p r 0 := ⟨_, rfl⟩
            rw [← hkc] at cK kb
            have hkon : Hid (addL p s.a (keepT (0, fred p kc)) = gKon p r 0 s.a) := hide (by rw [hkc]; rfl)
            replace hkc := hide hkc
            go_wp2_with fail
            refine Rel.wp_region_mix 12 [] [(10, IsLn (keepT (0, fred p kc))), (11, IsLn (gKon p r 0 s.a))] Tryz.mixed (by kernel_rfl) (by kernel_rfl) ?_ ?_
            rotate_left
            simp only [List.take_succ_cons, List.take_zero, List.drop_succ_cons, List.drop_zero, List.map_cons, List.map_nil]
            repeat (first | (refine Rel.wpA_b (by rfl) ?_) | (refine Rel.wpA_step (by rfl) fun K hK => ?_; go_simp; first | (refine hK _ ?_; clear hK K) | (apply Exists.intro; refine ⟨fun _ => ?_, hK _ ?_⟩; (first | (go_at_call 226; exact cK _)); clear hK K)))
            refine Rel.wpA_nil ?_
            rotate_left
            · intro z hz v u u' h1 h2
              simp only [List.mem_cons, List.not_mem_nil, or_false] at hz
              rcases hz with rfl | rfl
              · exact IsLn.mono h1 h2
              · exact IsLn.mono h1 h2
            refine Rel.wpB_step _ rfl rfl (fun p' hc => ?_) (fun v10 => ?_)
            · refine rU_of' (fr := false) (r := .ok (.enter 48 #[.int .u64 p, .int .u64 kc]) (later wr p')) (by kernel_rfl) (by kernel_rfl) ?_
              exact rU_ln (Constant20_any p kc _ kb)
            refine Rel.wpB_step _ rfl rfl (fun p' hc => ?_) (fun v11 => ?_)
            · have h10 : IsLn (keepT (0, fred p kc)) v10 (later wr p') := hc _ (List.Mem.head _) (by kernel_rfl)
              obtain ⟨t, rfl, et, lt⟩ := h10
              have ltl := keepT_len (0, fred p kc)
              refine rU_of' (fr := false) (r := .ok (.enter 156 #[.int .u64 p, .slice x.ad x.l.length x.cap, .slice t.ad t.l.length t.cap]) (later wr p')) (by kernel_rfl) (by kernel_rfl) ?_
              have cA := gAdd_any p x t (later wr p') (lm.mono (below_later _ _)).ok lt.ok (fun _ => by rw [et.out]; omega)
              rw [show addP p x.l t.l 1 = gKon p r 0 s.a by rw [← hkon.out, hel.out, et.out]; rfl] at cA
              exact rU_ln cA
            refine Rel.wpB_nil ?_
            intro p' hctx hfr
            simp only [List.nil_append, List.cons_append, List.mem_cons, List.not_mem_nil, or_false, forall_eq_or_imp, forall_eq] at hctx
            obtain ⟨_, ⟨n, rfl, en, ln⟩⟩ := hctx
            have hbl := below_later wr p'
            clear hfr km cK lm
            generalize later wr p' = w3 at *
            replace P := P.below hbl
            have f := P.blk.free 0
            have cq := P.blk.cell (j := 0) (v := .slice x.ad x.l.length x.cap) rfl
            have PP := P.set0 (Nat.le_refl _) hb0 ln
            have hE2 : Hid ((⟨n.l, y.l, z.l⟩ : L3) = kA p r s 1) := hide (by
              have e1 := congrArg L3.a hE.out
              have e2 := congrArg L3.b hE.out
              have e3 := congrArg L3.c hE.out
              simp only [kA] at e1 e2 e3 ⊢
              simp [en.out, e2, e3])
            clear hbl hE hel
            go_wp2
            go_roundw
            case rel => exact ⟨1, by omega, rfl, _, _, _, PP, hE2⟩
            case measure => simp [intOf]

          · have hel : Hid (y.l = s.b) := hide (by have := congrArg L3.b hE.out; exact this)
            have hsl : y.l.length ≤ 30000 := by rw [hel.out]; have := hS3; unfold Sm3 at this; omega
            have km := cell_later' (P.blk.cell (j := 1) (v := .slice y.ad y.l.length y.cap) rfl)
            have cK := fun P' => Constant_any p r 1 (later wr P')
            have kb := fconst_bd p r 1
            have lm := P.ly
            obtain ⟨kc, hkc⟩ : ∃ kc, kc = fconst p r 1 := ⟨_, rfl⟩
            rw [← hkc] at cK kb
            have hkon : Hid (addL p s.b (keepT (0, fred p kc)) = gKon p r 1 s.b) := hide (by rw [hkc]; rfl)
            replace hkc := hide hkc
            go_wp2_with fail
            refine Rel.wp_region_mix 12 [] [(10, IsLn (keepT (0, fred p kc))), (11, IsLn (gKon p r 1 s.b))] Tryz.mixed (by kernel_rfl) (by kernel_rfl) ?_ ?_
            rotate_left
            simp only [List.take_succ_cons, List.take_zero, List.drop_succ_cons, List.drop_zero, List.map_cons, List.map_nil]
            repeat (first | (refine Rel.wpA_b (by rfl) ?_) | (refine Rel.wpA_step (by rfl) fun K hK => ?_; go_simp; first | (refine hK _ ?_; clear hK K) | (apply Exists.intro; refine ⟨fun _ => ?_, hK _ ?_⟩; (first | (go_at_call 226; exact cK _)); clear hK K)))
            refine Rel.wpA_nil ?_
            rotate_left
            · intro z hz v u u' h1 h2
              simp only [List.mem_cons, List.not_mem_nil, or_false] at hz
              rcases hz with rfl | rfl
              · exact IsLn.mono h1 h2
              · exact IsLn.mono h1 h2
            refine Rel.wpB_step _ rfl rfl (fun p' hc => ?_) (fun v10 => ?_)
            · refine rU_of' (fr := false) (r := .ok (.enter 48 #[.int .u64 p, .int .u64 kc]) (later wr p')) (by kernel_rfl) (by kernel_rfl) ?_
              exact rU_ln (Constant20_any p kc _ kb)
            refine Rel.wpB_step _ rfl rfl (fun p' hc => ?_) (fun v11 => ?_)
            · have h10 : IsLn (keepT (0, fred p kc)) v10 (later wr p') := hc _ (List.Mem.head _) (by kernel_rfl)
              obtain ⟨t, rfl, et, lt⟩ := h10
              have ltl := keepT_len (0, fred p kc)
              refine rU_of' (fr := false) (r := .ok (.enter 156 #[.int .u64 p, .slice y.ad y.l.length y.cap, .slice t.ad t.l.length t.cap]) (later wr p')) (by kernel_rfl) (by kernel_rfl) ?_
              have cA := gAdd_any p y t (later wr p') (lm.mono (below_later _ _)).ok lt.ok (fun _ => by rw [et.out]; omega)
              rw [show addP p y.l t.l 1 = gKon p r 1 s.b by rw [← hkon.out, hel.out, et.out]; rfl] at cA
              exact rU_ln cA
            refine Rel.wpB_nil ?_
            intro p' hctx hfr
            simp only [List.nil_append, List.cons_append, List.mem_cons, List.not_mem_nil, or_false, forall_eq_or_imp, forall_eq] at hctx
            obtain ⟨_, ⟨n, rfl, en, ln⟩⟩ := hctx
            have hbl := below_later wr p'
            clear hfr km cK lm
            generalize later wr p' = w3 at *
            replace P := P.below hbl
            have f := P.blk.free 1
            have cq := P.blk.cell (j := 1) (v := .slice y.ad y.l.length y.cap) rfl
            have PP := P.set1 (Nat.le_refl _) hb0 ln
            have hE2 : Hid ((⟨x.l, n.l, z.l⟩ : L3) = kA p r s 2) := hide (by
              have e1 := congrArg L3.a hE.out
              have e2 := congrArg L3.b hE.out
              have e3 := congrArg L3.c hE.out
              simp only [kA] at e1 e2 e3 ⊢
              simp [en.out, e1, e3])
            clear hbl hE hel
            go_wp2
            go_roundw
            case rel => exact ⟨2, by omega, rfl, _, _, _, PP, hE2⟩
            case measure => simp [intOf]

          · have hel : Hid (z.l = s.c) := hide (by have := congrArg L3.c hE.out; exact this)
            have hsl : z.l.length ≤ 30000 := by rw [hel.out]; have := hS3; unfold Sm3 at this; omega
            have km := cell_later' (P.blk.cell (j := 2) (v := .slice z.ad z.l.length z.cap) rfl)
            have cK := fun P' => Constant_any p r 2 (later wr P')
            have kb := fconst_bd p r 2
            have lm := P.lz
            obtain ⟨kc, hkc⟩ : ∃ kc, kc = fconst p r 2 := ⟨_, rfl⟩
            rw [← hkc] at cK kb
            have hkon : Hid (addL p s.c (keepT (0, fred p kc)) = gKon p r 2 s.c) := hide (by rw [hkc]; rfl)
            replace hkc := hide hkc
            go_wp2_with fail
            refine Rel.wp_region_mix 12 [] [(10, IsLn (keepT (0, fred p kc))), (11, IsLn (gKon p r 2 s.c))] Tryz.mixed (by kernel_rfl) (by kernel_rfl) ?_ ?_
            rotate_left
            simp only [List.take_succ_cons, List.take_zero, List.drop_succ_cons, List.drop_zero, List.map_cons, List.map_nil]
            repeat (first | (refine Rel.wpA_b (by rfl) ?_) | (refine Rel.wpA_step (by rfl) fun K hK => ?_; go_simp; first | (refine hK _ ?_; clear hK K) | (apply Exists.intro; refine ⟨fun _ => ?_, hK _ ?_⟩; (first | (go_at_call 226; exact cK _)); clear hK K)))
            refine Rel.wpA_nil ?_
            rotate_left
            · intro z hz v u u' h1 h2
              simp only [List.mem_cons, List.not_mem_nil, or_false] at hz
              rcases hz with rfl | rfl
              · exact IsLn.mono h1 h2
              · exact IsLn.mono h1 h2
            refine Rel.wpB_step _ rfl rfl (fun p' hc => ?_) (fun v10 => ?_)
            · refine rU_of' (fr := false) (r := .ok (.enter 48 #[.int .u64 p, .int .u64 kc]) (later wr p')) (by kernel_rfl) (by kernel_rfl) ?_
              exact rU_ln (Constant20_any p kc _ kb)
            refine Rel.wpB_step _ rfl rfl (fun p' hc => ?_) (fun v11 => ?_)
            · have h10 : IsLn (keepT (0, fred p kc)) v10 (later wr p') := hc _ (List.Mem.head _) (by kernel_rfl)
              obtain ⟨t, rfl, et, lt⟩ := h10
              have ltl := keepT_len (0, fred p kc)
              refine rU_of' (fr := false) (r := .ok (.enter 156 #[.int .u64 p, .slice z.ad z.l.length z.cap, .slice t.ad t.l.length t.cap]) (later wr p')) (by kernel_rfl) (by kernel_rfl) ?_
              have cA := gAdd_any p z t (later wr p') (lm.mono (below_later _ _)).ok lt.ok (fun _ => by rw [et.out]; omega)
              rw [show addP p z.l t.l 1 = gKon p r 2 s.c by rw [← hkon.out, hel.out, et.out]; rfl] at cA
              exact rU_ln cA
            refine Rel.wpB_nil ?_
            intro p' hctx hfr
            simp only [List.nil_append, List.cons_append, List.mem_cons, List.not_mem_nil, or_false, forall_eq_or_imp, forall_eq] at hctx
            obtain ⟨_, ⟨n, rfl, en, ln⟩⟩ := hctx
            have hbl := below_later wr p'
            clear hfr km cK lm
            generalize later wr p' = w3 at *
            replace P := P.below hbl
            have f := P.blk.free 2
            have cq := P.blk.cell (j := 2) (v := .slice z.ad z.l.length z.cap) rfl
            have PP := P.set2 (Nat.le_refl _) hb0 ln
            have hE2 : Hid ((⟨x.l, y.l, n.l⟩ : L3) = kA p r s 3) := hide (by
              have e1 := congrArg L3.a hE.out
              have e2 := congrArg L3.b hE.out
              have e3 := congrArg L3.c hE.out
              simp only [kA] at e1 e2 e3 ⊢
              simp [en.out, e1, e2])
            clear hbl hE hel
            go_wp2
            go_roundw
            case rel => exact ⟨3, by omega, rfl, _, _, _, PP, hE2⟩
            case measure => simp [intOf]

        · obtain rfl : k = 3 := by omega
          rw [show ((3 : Nat) : Int) = 3 from rfl]
          have hE3 : Hid ((⟨x.l, y.l, z.l⟩ : L3) = gKon3 p r s) := hE
          obtain ⟨q1, hq1⟩ : ∃ q1 : St × L3, q1 = (S1, gKon3 p r s) := ⟨_, rfl⟩
          have hl1 : Hid (Sm3 30001 q1.2) := hide (by
            rw [hq1]
            obtain ⟨m1, m2, m3⟩ := hS3
            have := gKon_len p r 0 s.a
            have := gKon_len p r 1 s.b
            have := gKon_len p r 2 s.c
            exact ⟨by show (gKon p r 0 s.a).length ≤ _; omega, by show (gKon p r 1 s.b).length ≤ _; omega, by show (gKon p r 2 s.c).length ≤ _; omega⟩)
          have hpB : ∀ k, (pB q1 k).1.p = p := fun k => by rw [pB_p, hq1]; exact hS1.out
          have hbB : ∀ k, Bd (pB q1 k).1 (N + 24 * (r : Int) + 24) := fun k => pB_bd (by rw [hq1]; exact hS2) k
          have hgs : Hid (pB q1 3 = gSub r (S1, s)) := hide (by rw [hq1]; show gPow3 (gPow2 (gPow1 (S1, gKon3 p r s))) = gPow3 (gPow2 (gPow1 (S1, gKon3 S1.p r s))); rw [hS1.out])
          have P0 : PG w wr base b w.heap.size (pB q1 0).1 x y z := by rw [hq1]; exact P
          have hE4 : Hid ((⟨x.l, y.l, z.l⟩ : L3) = (pB q1 0).2) := by rw [hq1]; exact hE3
          obtain ⟨wA, hwA⟩ : ∃ wA, wA = wr := ⟨_, rfl⟩
          subst hwA
          replace hq1 := hide hq1
          replace hpB := hide hpB
          replace hbB := hide hbB
          clear P hE hE3
          go_wp2_with fail
          go_loopw [36] (fun t36 wr => ∃ k : Nat, k ≤ 3 ∧ t36 = .int .i64 k ∧ ∃ x y z : Lc, PG w wr base b w.heap.size (pB q1 k).1 x y z ∧ Hid ((⟨x.l, y.l, z.l⟩ : L3) = (pB q1 k).2)) (fun t36 _ => 3 - (intOf t36).toNat)
          case atStart => exact ⟨0, by omega, rfl, x, y, z, P0, hE4⟩
          case round =>
            clear P0 hE4
            obtain ⟨k, hk, rfl, x, y, z, P, hE⟩ := hrel
            by_cases hlt3 : k < 3
            · obtain rfl | rfl | rfl : k = 0 ∨ k = 1 ∨ k = 2 := by omega
              · have hel : Hid (x.l = (pB q1 0).2.a) := hide (congrArg L3.a hE.out)
                have hsl : x.l.length ≤ 30001 := by rw [hel.out]; have := hl1.out; unfold Sm3 at this; exact this.1
                have km := P.blk.cell (j := 0) (v := .slice x.ad x.l.length x.cap) rfl
                have cP := power20_any base b (pB q1 0).1 _ x wr P.bld (by rw [hpB.out]; exact hv) (hbB.out 0) (by omega) P.lx (by omega)
                go_wp2_with fail
                refine cP.mono ?_
                rintro e w3 ⟨n, rfl, en, ln, hB3, k3⟩
                rw [hel.out] at hB3 en
                have P3 : PG w w3 base b w.heap.size (pB q1 1).1 x y z := P.keep k3 hB3
                have f := P3.blk.free 0
                have cq := P3.blk.cell (j := 0) (v := .slice x.ad x.l.length x.cap) rfl
                have PP := P3.set0 (Nat.le_refl _) hb0 ln
                have hE2 : Hid ((⟨n.l, y.l, z.l⟩ : L3) = (pB q1 1).2) := hide (by
                  have e1 := congrArg L3.a hE.out
                  have e2 := congrArg L3.b hE.out
                  have e3 := congrArg L3.c hE.out
                  simp only at e1 e2 e3
                  simp only [en.out, e2, e3]
                  rfl)
                clear hE hel km cP P P3 k3 hB3
                go_wp2
                go_roundw
                case rel => exact ⟨1, by omega, rfl, _, _, _, PP, hE2⟩
                case measure => simp [intOf]

              · have hel : Hid (y.l = (pB q1 1).2.b) := hide (congrArg L3.b hE.out)
                have hsl : y.l.length ≤ 30001 := by rw [hel.out]; have := hl1.out; unfold Sm3 at this; exact this.2.1
                have km := P.blk.cell (j := 1) (v := .slice y.ad y.l.length y.cap) rfl
                have cP := power20_any base b (pB q1 1).1 _ y wr P.bld (by rw [hpB.out]; exact hv) (hbB.out 1) (by omega) P.ly (by omega)
                go_wp2_with fail
                refine cP.mono ?_
                rintro e w3 ⟨n, rfl, en, ln, hB3, k3⟩
                rw [hel.out] at hB3 en
                have P3 : PG w w3 base b w.heap.size (pB q1 2).1 x y z := P.keep k3 hB3
                have f := P3.blk.free 1
                have cq := P3.blk.cell (j := 1) (v := .slice y.ad y.l.length y.cap) rfl
                have PP := P3.set1 (Nat.le_refl _) hb0 ln
                have hE2 : Hid ((⟨x.l, n.l, z.l⟩ : L3) = (pB q1 2).2) := hide (by
                  have e1 := congrArg L3.a hE.out
                  have e2 := congrArg L3.b hE.out
                  have e3 := congrArg L3.c hE.out
                  simp only at e1 e2 e3
                  simp only [en.out, e1, e3]
                  rfl)
                clear hE hel km cP P P3 k3 hB3
                go_wp2
                go_roundw
                case rel => exact ⟨2, by omega, rfl, _, _, _, PP, hE2⟩
                case measure => simp [intOf]

              · have hel : Hid (z.l = (pB q1 2).2.c) := hide (congrArg L3.c hE.out)
                have hsl : z.l.length ≤ 30001 := by rw [hel.out]; have := hl1.out; unfold Sm3 at this; exact this.2.2
                have km := P.blk.cell (j := 2) (v := .slice z.ad z.l.length z.cap) rfl
                have cP := power20_any base b (pB q1 2).1 _ z wr P.bld (by rw [hpB.out]; exact hv) (hbB.out 2) (by omega) P.lz (by omega)
                go_wp2_with fail
                refine cP.mono ?_
                rintro e w3 ⟨n, rfl, en, ln, hB3, k3⟩
                rw [hel.out] at hB3 en
                have P3 : PG w w3 base b w.heap.size (pB q1 3).1 x y z := P.keep k3 hB3
                have f := P3.blk.free 2
                have cq := P3.blk.cell (j := 2) (v := .slice z.ad z.l.length z.cap) rfl
                have PP := P3.set2 (Nat.le_refl _) hb0 ln
                have hE2 : Hid ((⟨x.l, y.l, n.l⟩ : L3) = (pB q1 3).2) := hide (by
                  have e1 := congrArg L3.a hE.out
                  have e2 := congrArg L3.b hE.out
                  have e3 := congrArg L3.c hE.out
                  simp only at e1 e2 e3
                  simp only [en.out, e1, e2]
                  rfl)
                clear hE hel km cP P P3 k3 hB3
                go_wp2
                go_roundw
                case rel => exact ⟨3, by omega, rfl, _, _, _, PP, hE2⟩
                case measure => simp [intOf]

            · obtain rfl : k = 3 := by omega
              rw [show ((3 : Nat) : Int) = 3 from rfl]
              rw [hgs.out] at P hE
              have hGp : (gSub r (S1, s)).1.p = p := by rw [gSub_p]; exact hS1.out
              have hGl := gSub_len r (S1, s)
              obtain ⟨⟨S2, s2⟩, hq2⟩ : ∃ q : St × L3, q = gSub r (S1, s) := ⟨_, rfl⟩
              rw [← hq2] at P hE hGp hGl
              simp only at P hE hGp hGl
              have hQN : Hid (QN = (S2, gMix p s2)) := hide (by
                rw [hnx.out]
                show ((gSub r (S1, s)).1, gMix (gSub r (S1, s)).1.p (gSub r (S1, s)).2) = _
                rw [← hq2]
                show (S2, gMix S2.p s2) = _
                rw [hGp])
              replace hGp := hide hGp
              replace hq2 := hide hq2
              obtain ⟨wB, hwB⟩ : ∃ wB, wB = wr := ⟨_, rfl⟩
              subst hwB
              obtain ⟨gl1, gl2, gl3⟩ := hGl
              have ea : Hid (x.l = s2.a) := hide (congrArg L3.a hE.out)
              have eb : Hid (y.l = s2.b) := hide (congrArg L3.b hE.out)
              have ec : Hid (z.l = s2.c) := hide (congrArg L3.c hE.out)
              have za : x.l.length ≤ 1 := by rw [ea.out]; exact gl1
              have zb : y.l.length ≤ 1 := by rw [eb.out]; exact gl2
              have zc : z.l.length ≤ 1 := by rw [ec.out]; exact gl3
              have m0 := cell_later' (P.blk.cell (j := 0) (v := .slice x.ad x.l.length x.cap) rfl)
              have m1 := cell_later' (P.blk.cell (j := 1) (v := .slice y.ad y.l.length y.cap) rfl)
              have m2 := cell_later' (P.blk.cell (j := 2) (v := .slice z.ad z.l.length z.cap) rfl)
              have lx := P.lx
              have ly := P.ly
              have lz := P.lz
              go_wp2_with fail
              refine Rel.wp_region_mix 10 [] [(6, IsLn (addL p s2.a s2.b)), (9, IsLn (gSum3 p s2))] Tryz.mixed (by kernel_rfl) (by kernel_rfl) ?_ ?_
              rotate_left
              simp only [List.take_succ_cons, List.take_zero, List.drop_succ_cons, List.drop_zero, List.map_cons, List.map_nil]
              repeat (first | (refine Rel.wpA_b (by rfl) ?_) | (refine Rel.wpA_step (by rfl) fun K hK => ?_; go_simp; first | (refine hK _ ?_; clear hK K) | (apply Exists.intro; refine ⟨fun _ => ?_, hK _ ?_⟩; (first | fail); clear hK K)))
              refine Rel.wpA_nil ?_
              rotate_left
              · intro z hz v u u' h1 h2
                simp only [List.mem_cons, List.not_mem_nil, or_false] at hz
                rcases hz with rfl | rfl
                · exact IsLn.mono h1 h2
                · exact IsLn.mono h1 h2
              refine Rel.wpB_step _ rfl rfl (fun p' hc => ?_) (fun v6 => ?_)
              · refine rU_of' (fr := false) (r := .ok (.enter 156 #[.int .u64 p, .slice x.ad x.l.length x.cap, .slice y.ad y.l.length y.cap]) (later wB p')) (by kernel_rfl) (by kernel_rfl) ?_
                have cA := gAdd_any p x y (later wB p') (lx.mono (below_later _ _)).ok (ly.mono (below_later _ _)).ok (fun _ => by omega)
                rw [show addP p x.l y.l 1 = addL p s2.a s2.b by rw [ea.out, eb.out]; rfl] at cA
                exact rU_ln cA
              refine Rel.wpB_step _ rfl rfl (fun p' hc => ?_) (fun v9 => ?_)
              · have h6 : IsLn (addL p s2.a s2.b) v6 (later wB p') := hc _ (List.Mem.head _) (by kernel_rfl)
                obtain ⟨t, rfl, et, lt⟩ := h6
                have htl := addP_len p s2.a s2.b 1
                refine rU_of' (fr := false) (r := .ok (.enter 156 #[.int .u64 p, .slice t.ad t.l.length t.cap, .slice z.ad z.l.length z.cap]) (later wB p')) (by kernel_rfl) (by kernel_rfl) ?_
                have cA := gAdd_any p t z (later wB p') lt.ok (lz.mono (below_later _ _)).ok (fun _ => by rw [et.out]; unfold addL; omega)
                rw [show addP p t.l z.l 1 = gSum3 p s2 by rw [et.out, ec.out]; rfl] at cA
                exact rU_ln cA
              refine Rel.wpB_nil ?_
              intro p' hctx hfr
              simp only [List.nil_append, List.cons_append, List.mem_cons, List.not_mem_nil, or_false, forall_eq_or_imp, forall_eq] at hctx
              obtain ⟨_, ⟨t, rfl, et, lt⟩⟩ := hctx
              have hbl := below_later wB p'
              clear hfr m0 m1 m2 lx ly lz
              generalize later wB p' = wC at *
              replace P := P.below hbl
              have P0 : PG w wC base b w.heap.size S2 x y z ∧ LinT wC t := ⟨P, lt⟩
              have hE5 : Hid ((⟨x.l, y.l, z.l⟩ : L3) = mC p t.l s2 0) := hE
              have htl : Hid (t.l.length ≤ 3) := hide (by
                have e1 := addP_len p s2.a s2.b 1
                have e2 := addP_len p (addL p s2.a s2.b) s2.c 1
                rw [et.out]
                unfold gSum3 addL
                unfold addL at e2
                omega)
              clear hbl hE P lt za zb zc ea eb ec
              go_wp2_with fail
              go_loopw [57] (fun t57 wr => ∃ k : Nat, k ≤ 3 ∧ t57 = .int .i64 k ∧ ∃ x y z : Lc, (PG w wr base b w.heap.size S2 x y z ∧ LinT wr t) ∧ Hid ((⟨x.l, y.l, z.l⟩ : L3) = mC p t.l s2 k)) (fun t57 _ => 3 - (intOf t57).toNat)
              case atStart => exact ⟨0, by omega, rfl, x, y, z, P0, hE5⟩
              case round =>
                clear P0 hE5
                obtain ⟨k, hk, rfl, x, y, z, ⟨P, lt⟩, hE⟩ := hrel
                by_cases hlt3 : k < 3
                · obtain rfl | rfl | rfl : k = 0 ∨ k = 1 ∨ k = 2 := by omega
                  · have hel : Hid (x.l = s2.a) := hide (congrArg L3.a hE.out)
                    have hsl : x.l.length ≤ 1 := by rw [hel.out]; exact gl1
                    have km := P.blk.cell (j := 0) (v := .slice x.ad x.l.length x.cap) rfl
                    have cA := gAdd_any p x t wr P.lx.ok lt.ok (fun _ => by have := htl.out; omega)
                    go_wp2_with fail
                    refine cA.mono ?_
                    rintro e w3 ⟨n, rfl, en, ln, hb3⟩
                    have en2 : Hid (n.l = addL p s2.a t.l) := hide (by rw [en.out, hel.out]; rfl)
                    have P3 := P.below hb3
                    have f := P3.blk.free 0
                    have cq := P3.blk.cell (j := 0) (v := .slice x.ad x.l.length x.cap) rfl
                    have PP := P3.set0 (Nat.le_refl _) hb0 ln
                    have lt2 : LinT (w3.setCell ⟨w.heap.size, 0, none⟩ (lcV n)) t := (lt.mono hb3).setType P3.blk (by decide)
                    have hE2 : Hid ((⟨n.l, y.l, z.l⟩ : L3) = mC p t.l s2 1) := hide (by
                      have e1 := congrArg L3.a hE.out
                      have e2 := congrArg L3.b hE.out
                      have e3 := congrArg L3.c hE.out
                      simp only [mC] at e1 e2 e3 ⊢
                      simp [en2.out, e2, e3])
                    clear hE hel km cA P P3 lt hb3 en
                    go_wp2
                    go_roundw
                    case rel => exact ⟨1, by omega, rfl, _, _, _, ⟨PP, lt2⟩, hE2⟩
                    case measure => simp [intOf]

                  · have hel : Hid (y.l = s2.b) := hide (congrArg L3.b hE.out)
                    have hsl : y.l.length ≤ 1 := by rw [hel.out]; exact gl2
                    have km := P.blk.cell (j := 1) (v := .slice y.ad y.l.length y.cap) rfl
                    have cA := gAdd_any p y t wr P.ly.ok lt.ok (fun _ => by have := htl.out; omega)
                    go_wp2_with fail
                    refine cA.mono ?_
                    rintro e w3 ⟨n, rfl, en, ln, hb3⟩
                    have en2 : Hid (n.l = addL p s2.b t.l) := hide (by rw [en.out, hel.out]; rfl)
                    have P3 := P.below hb3
                    have f := P3.blk.free 1
                    have cq := P3.blk.cell (j := 1) (v := .slice y.ad y.l.length y.cap) rfl
                    have PP := P3.set1 (Nat.le_refl _) hb0 ln
                    have lt2 : LinT (w3.setCell ⟨w.heap.size, 1, none⟩ (lcV n)) t := (lt.mono hb3).setType P3.blk (by decide)
                    have hE2 : Hid ((⟨x.l, n.l, z.l⟩ : L3) = mC p t.l s2 2) := hide (by
                      have e1 := congrArg L3.a hE.out
                      have e2 := congrArg L3.b hE.out
                      have e3 := congrArg L3.c hE.out
                      simp only [mC] at e1 e2 e3 ⊢
                      simp [en2.out, e1, e3])
                    clear hE hel km cA P P3 lt hb3 en
                    go_wp2
                    go_roundw
                    case rel => exact ⟨2, by omega, rfl, _, _, _, ⟨PP, lt2⟩, hE2⟩
                    case measure => simp [intOf]

                  · have hel : Hid (z.l = s2.c) := hide (congrArg L3.c hE.out)
                    have hsl : z.l.length ≤ 1 := by rw [hel.out]; exact gl3
                    have km := P.blk.cell (j := 2) (v := .slice z.ad z.l.length z.cap) rfl
                    have cA := gAdd_any p z t wr P.lz.ok lt.ok (fun _ => by have := htl.out; omega)
                    go_wp2_with fail
                    refine cA.mono ?_
                    rintro e w3 ⟨n, rfl, en, ln, hb3⟩
                    have en2 : Hid (n.l = addL p s2.c t.l) := hide (by rw [en.out, hel.out]; rfl)
                    have P3 := P.below hb3
                    have f := P3.blk.free 2
                    have cq := P3.blk.cell (j := 2) (v := .slice z.ad z.l.length z.cap) rfl
                    have PP := P3.set2 (Nat.le_refl _) hb0 ln
                    have lt2 : LinT (w3.setCell ⟨w.heap.size, 2, none⟩ (lcV n)) t := (lt.mono hb3).setType P3.blk (by decide)
                    have hE2 : Hid ((⟨x.l, y.l, n.l⟩ : L3) = mC p t.l s2 3) := hide (by
                      have e1 := congrArg L3.a hE.out
                      have e2 := congrArg L3.b hE.out
                      have e3 := congrArg L3.c hE.out
                      simp only [mC] at e1 e2 e3 ⊢
                      simp [en2.out, e1, e2])
                    clear hE hel km cA P P3 lt hb3 en
                    go_wp2
                    go_roundw
                    case rel => exact ⟨3, by omega, rfl, _, _, _, ⟨PP, lt2⟩, hE2⟩
                    case measure => simp [intOf]

                · obtain rfl : k = 3 := by omega
                  have hE6 : Hid ((⟨x.l, y.l, z.l⟩ : L3) = gMix p s2) := hide (by rw [hE.out, et.out]; rfl)
                  have PN : PG w wr base b w.heap.size QN.1 x y z := by rw [hQN.out]; exact P
                  have EN : Hid ((⟨x.l, y.l, z.l⟩ : L3) = QN.2) := by rw [hQN.out]; exact hE6
                  clear P hE hE6 lt
                  go_wp2
                  go_roundw
                  case rel => exact ⟨r + 1, by omega, by go_num, x, y, z, by rw [← hQNd.out]; exact PN, by rw [← hQNd.out]; exact EN⟩
                  case measure => simp [intOf]; omega
    · obtain rfl : r = 8 := by omega
      have m0 := P.blk.cell (j := 0) (v := .slice x.ad x.l.length x.cap) rfl
      have m1 := P.blk.cell (j := 1) (v := .slice y.ad y.l.length y.cap) rfl
      have m2 := P.blk.cell (j := 2) (v := .slice z.ad z.l.length z.cap) rfl
      have o0 := P.out.cell (j := 0) (v := .slice none 0 0) rfl
      have o1 := P.out.cell (j := 1) (v := .slice none 0 0) rfl
      have o2 := P.out.cell (j := 2) (v := .slice none 0 0) rfl
      have fo := P.out.free
      go_wp2
      refine bodyPost_ret (v := .agg #[.slice x.ad x.l.length x.cap, .slice y.ad y.l.length y.cap, .slice z.ad z.l.length z.cap]) (by simp [results, Tryz.results201, go_sem, o0, o1, o2]) rfl ?_
      obtain ⟨a1, a2, a3, a4, a5, a6⟩ := P.fin (Nat.le_refl _) hb0 (.slice x.ad x.l.length x.cap) (.slice y.ad y.l.length y.cap) (.slice z.ad z.l.length z.cap)
      exact ⟨x, y, z, rfl, hE, a3, a4, a5, a2, a1⟩

/-- The elements are added, two by two. -/
def gAbs (p : Int) (VL : List Lin) (i j : Nat) (s : L3) : L3 := ⟨if 0 < j ∧ i < VL.length then addL p s.a (VL.getD i []) else s.a, if 1 < j ∧ i + 1 < VL.length then addL p s.b (VL.getD (i + 1) []) else s.b, s.c⟩
def gHashN (p : Int) (VL : List Lin) : Nat → St × L3 → St × L3
  | 0, q => q
  | m + 1, q => gPerm 8 ((gHashN p VL m q).1, gAbs p VL (2 * m) 2 (gHashN p VL m q).2)
def hashM (n : Nat) : Nat := if n = 0 then 1 else (n + 1) / 2
def hashLast (p label : Int) (n : Nat) : Int := fadd p (fmul p label 65536) n
def hash0 (p label : Int) (n : Nat) : L3 := ⟨[], [], keepT (0, fred p (hashLast p label n))⟩
def gHash (S : St) (label : Int) (VL : List Lin) : St × Lin :=
  ((gHashN S.p VL (hashM VL.length) (S, hash0 S.p label VL.length)).1, (gHashN S.p VL (hashM VL.length) (S, hash0 S.p label VL.length)).2.a)
theorem gHashN_p (p : Int) (VL : List Lin) (q : St × L3) : ∀ m, (gHashN p VL m q).1.p = q.1.p
  | 0 => rfl
  | m + 1 => (gPerm_p _ 8).trans (gHashN_p p VL q m)
theorem gHashN_bd {p : Int} {VL : List Lin} {q : St × L3} {n : Int} (h : Bd q.1 n) : ∀ m : Nat, Bd (gHashN p VL m q).1 (n + 192 * m)
  | 0 => h.up (by omega)
  | m + 1 => (gPerm_bd (q := ((gHashN p VL m q).1, gAbs p VL (2 * m) 2 (gHashN p VL m q).2)) (gHashN_bd h m) 8).up (by omega)
theorem gAbs_len {p : Int} {VL : List Lin} {i j : Nat} {s : L3} (h : Sm3 4 s) (hl : ∀ x ∈ VL, x.length ≤ 20000) : Sm3 20004 (gAbs p VL i j s) := by
  obtain ⟨h1, h2, h3⟩ := h
  refine ⟨?_, ?_, by show s.c.length ≤ 20004; omega⟩
  · show (if 0 < j ∧ i < VL.length then addL p s.a (VL.getD i []) else s.a).length ≤ 20004
    split
    · rename_i hc
      have := addP_len p s.a (VL.getD i []) 1
      have := hl _ (getD_mem' hc.2 [])
      unfold addL
      omega
    · omega
  · show (if 1 < j ∧ i + 1 < VL.length then addL p s.b (VL.getD (i + 1) []) else s.b).length ≤ 20004
    split
    · rename_i hc
      have := addP_len p s.b (VL.getD (i + 1) []) 1
      have := hl _ (getD_mem' hc.2 [])
      unfold addL
      omega
    · omega
theorem gPerm8_len (q : St × L3) : Sm3 4 (gPerm 8 q).2 := gMix_len (gSub_len _ _)
theorem gHashN_len {p : Int} {VL : List Lin} {q : St × L3} (h : Sm3 4 q.2) : ∀ m, Sm3 4 (gHashN p VL m q).2
  | 0 => h
  | _ + 1 => gPerm8_len _

/-- The state of Hash. -/
structure HS (w wr : World) (base b q : Nat) (S : St) (x y z : Lc) (B : Nat) (v : Value) (Ls : List Lc) : Prop where
  kept : Kept base w wr
  bld : Bld wr base b S
  blk : Blk wr q #[lcV x, lcV y, lcV z] 281
  lx : LinT wr x
  ly : LinT wr y
  lz : LinT wr z
  ow : OwnG lcL wr B 95 v Ls
  ls : ∀ s ∈ Ls, LinT wr s
theorem HS.below {w wr w2 : World} {base b q B : Nat} {S : St} {x y z : Lc} {v : Value} {Ls : List Lc} (h : HS w wr base b q S x y z B v Ls) (hb : Below wr.heap.size wr w2) : HS w w2 base b q S x y z B v Ls :=
  ⟨h.kept.trans (Kept.of_below hb h.bld.lt), h.bld.mono hb, h.blk.mono hb, h.lx.mono hb, h.ly.mono hb, h.lz.mono hb, h.ow.mono hb, fun s hs => (h.ls s hs).mono hb⟩
theorem HS.keep {w wr w2 : World} {base b q B : Nat} {S S' : St} {x y z : Lc} {v : Value} {Ls : List Lc} (h : HS w wr base b q S x y z B v Ls) (k : Kept base wr w2) (hB : Bld w2 base b S') : HS w w2 base b q S' x y z B v Ls :=
  ⟨h.kept.trans k, hB, k.typ _ _ _ h.blk (by decide) (by decide) (by decide), k.lin h.lx, k.lin h.ly, k.lin h.lz, k.ownG h.ow (by decide) (by decide) (by decide), fun s hs => k.lin (h.ls s hs)⟩
theorem HS.set {w wr : World} {base b q B : Nat} {S : St} {x y z : Lc} {v : Value} {Ls : List Lc} (h : HS w wr base b q S x y z B v Ls) (hq : w.heap.size ≤ q) (hb : base ≤ w.heap.size) (j : Nat) (s x' y' z' : Lc)
    (hc : (#[lcV x, lcV y, lcV z] : Array Value).setIfInBounds j (lcV s) = #[lcV x', lcV y', lcV z']) (hx : LinT wr x') (hy : LinT wr y') (hz : LinT wr z') : HS w (wr.setCell ⟨q, j, none⟩ (lcV s)) base b q S x' y' z' B v Ls := by
  have l2 : ∀ t, LinT wr t → LinT (wr.setCell ⟨q, j, none⟩ (lcV s)) t := fun t ht => ht.setType h.blk (by decide)
  refine ⟨h.kept.setNew hq hb _, h.bld.other h.blk (by decide) (by decide) (by decide) j _ (fun t ht _ => l2 t ht), ?_, l2 _ hx, l2 _ hy, l2 _ hz, h.ow.other (h.ow.neq h.blk (by decide)) _, fun t ht => l2 t (h.ls t ht)⟩
  have := h.blk.set j (lcV s)
  rw [hc] at this
  exact this
theorem hashM_pos (n : Nat) : 1 ≤ hashM n := by unfold hashM; split <;> omega
theorem hashM_lt {n m : Nat} (h : m < hashM n) : m = 0 ∨ 2 * m < n := by unfold hashM at h; split at h <;> omega
theorem hashM_ge {n : Nat} : n ≤ 2 * hashM n ∧ hashM n ≤ n + 1 := by unfold hashM; split <;> omega

set_option maxRecDepth 10000 in
set_option maxHeartbeats 64000000 in
theorem Hash20_any (base b B : Nat) (S : St) (N label : Int) (ad : Option Addr) (c : Nat) (Ls : List Lc) (w : World) (h : Bld w base b S) (hv : vld S.p = true) (hS : Bd S N) (hN : N ≤ 700000000) (hlab : 0 ≤ label ∧ label < 18446744073709551616)
    (ow : OwnG lcL w B 95 (.slice ad Ls.length c) Ls) (hls : ∀ s ∈ Ls, LinT w s) (hlen : ∀ s ∈ Ls, s.l.length ≤ 20000) (hn : Ls.length ≤ 1000) :
    Calls Tryz.prog 153 #[.pointer (some ⟨b, 0, none⟩), .int .u64 label, .slice ad Ls.length c] w (RetB w base b (gHash S label (Ls.map Lc.l)).1 (gHash S label (Ls.map Lc.l)).2) := by
  have hb0 := h.lt
  obtain ⟨p, hp⟩ : ∃ p, p = S.p := ⟨_, rfl⟩
  obtain ⟨VL, hVL⟩ : ∃ VL, VL = Ls.map Lc.l := ⟨_, rfl⟩
  have hVl : VL.length = Ls.length := by rw [hVL, List.length_map]
  have hV100 : ∀ x ∈ VL, x.length ≤ 20000 := fun x hx => by
    rw [hVL] at hx
    obtain ⟨s, hs, rfl⟩ := List.mem_map.1 hx
    exact hlen s hs
  have hVg : Hid (∀ i, i < Ls.length → (Ls.getD i default).l = VL.getD i []) := hide fun i hi => by rw [hVL, getD_map' Lc.l Ls i default [] hi]
  obtain ⟨Q, hQ⟩ : ∃ Q : St × L3, Q = (S, hash0 p label Ls.length) := ⟨_, rfl⟩
  obtain ⟨M, hM⟩ : ∃ M, M = hashM Ls.length := ⟨_, rfl⟩
  have hM1 : 1 ≤ M := by rw [hM]; exact hashM_pos _
  have hMl : Hid (∀ m, m < M → m = 0 ∨ 2 * m < Ls.length) := hide fun m hm => by rw [hM] at hm; exact hashM_lt hm
  have hMg : Ls.length ≤ 2 * M ∧ M ≤ Ls.length + 1 := by rw [hM]; exact hashM_ge
  have hQp : ∀ k, (gHashN p VL k Q).1.p = p := fun k => by rw [gHashN_p, hQ, hp]
  have hQb : ∀ k : Nat, Bd (gHashN p VL k Q).1 (N + 192 * k) := fun k => gHashN_bd (q := Q) (by rw [hQ]; exact hS) k
  have hQl : ∀ k, Sm3 4 (gHashN p VL k Q).2 := fun k => gHashN_len (q := Q) (by rw [hQ]; exact ⟨by simp [hash0], by simp [hash0], by have := keepT_len (0, fred p (hashLast p label Ls.length)); show (keepT _).length ≤ 4; omega⟩) k
  have hR : gHash S label (Ls.map Lc.l) = ((gHashN p VL M Q).1, (gHashN p VL M Q).2.a) := by
    unfold gHash
    rw [← hVL, ← hp, hVl, ← hM, ← hQ]
  rw [hR]
  obtain ⟨K, hK⟩ : ∃ K, K = hashLast p label Ls.length := ⟨_, rfl⟩
  have hm1 := fmul_bd p label 65536
  have hK1 : 0 ≤ K ∧ K < 18446744073709551616 := by rw [hK]; exact fadd_bd _ _ _
  have hK2 : Hid (fadd p (fmul p label 65536) Ls.length = K) := hide hK.symm
  have hK3 : Hid (hash0 p label Ls.length = ⟨[], [], keepT (0, fred p K)⟩) := hide (by rw [hK]; rfl)
  have cMu := fun W => Mul_any p label 65536 W hlab.1 hlab.2 (by decide) (by decide)
  generalize fmul p label 65536 = U at *
  have cAd := fun W => Add_any p U (Ls.length : Int) W hm1.1 hm1.2 (by omega) (by omega)
  rw [hK2.out] at cAd
  obtain ⟨cs, g, hc0⟩ := h.cell0
  rw [← hp] at hc0 hv
  have c0 := g.cell hc0
  have hwl : IntKind.u64.wrap (Ls.length : Int) = Ls.length := by rw [IntKind.wrap_u64]; omega
  replace hp := hide hp
  replace hVL := hide hVL
  replace hVl := hide hVl
  replace hV100 := hide hV100
  replace hQ := hide hQ
  replace hM := hide hM
  replace hQp := hide hQp
  replace hQb := hide hQb
  replace hQl := hide hQl
  replace hK := hide hK
  replace hlen := hide hlen
  clear hR hS hm1
  go_enter Tryz.func153, Tryz.ntmps153
  go_wp2_with fail
  replace c0 := cell_later' c0
  refine wp_region_later Tryz.mixed (by kernel_rfl) ?_
  repeat (first | go_big_quiet_step (first | (go_at_call 61; exact Calls.later_of (cMu _)) | (go_at_call 114; exact Calls.later_of (cAd _))) | quiet_step (first | (go_at_call 61; exact Calls.later_of (cMu _)) | (go_at_call 114; exact Calls.later_of (cAd _))))
  refine wpQuiet_nil ?_
  intro w1 hb1
  replace hb1 := below_of_later hb1
  clear c0 cMu cAd hwl hlab
  go_wp2_with fail
  refine (Constant20_any p K w1 hK1).mono ?_
  rintro e w2 ⟨t, rfl, et, lt, hb2⟩
  have hb12 := below2 hb1 hb2
  have hz2 := hb12.size
  have k2 := Kept.of_below hb12 hb0
  replace h := h.mono hb12
  replace ow := ow.mono hb12
  replace hls := fun s hs => (hls s hs).mono hb12
  clear hb1 hb2 hb12 g hc0
  go_wp2_with fail
  refine name_world fun w3 hN3 => ?_
  have gT : Blk w3 w2.heap.size #[.slice none 0 0, .slice none 0 0, .slice t.ad t.l.length t.cap] 281 := by rw [hN3]; exact Blk.newAt rfl
  have hb3 : Below w2.heap.size w2 w3 := by rw [hN3]; exact (Below.refl _ _).alloc (Nat.le_refl _) _
  clear hN3
  have H0 : HS w w3 base b w2.heap.size (gHashN p VL 0 Q).1 ⟨none, 0, []⟩ ⟨none, 0, []⟩ t B (.slice ad Ls.length c) Ls :=
    ⟨k2.trans (Kept.of_below hb3 h.lt), by show Bld w3 base b Q.1; rw [hQ.out]; exact h.mono hb3, gT, LinT.nil _, LinT.nil _, lt.mono hb3, ow.mono hb3, fun s hs => (hls s hs).mono hb3⟩
  have E0 : Hid ((⟨[], [], t.l⟩ : L3) = (gHashN p VL 0 Q).2) := hide (by show _ = Q.2; rw [hQ.out, et.out]; exact hK3.out.symm)
  obtain ⟨q0, hq0⟩ : ∃ q0, q0 = w2.heap.size := ⟨_, rfl⟩
  have hqz : w.heap.size ≤ q0 := by omega
  rw [← hq0] at H0 ⊢
  replace hq0 := hide hq0
  clear h ow hls gT hb3 k2 lt et hz2 hK hK2 hK3 hK1
  go_loopw [10] (fun t10 wr => ∃ m i : Nat, m ≤ M ∧ Hid (i = 2 * m) ∧ t10 = .int .i64 i ∧ ∃ x y z : Lc, HS w wr base b q0 (gHashN p VL m Q).1 x y z B (.slice ad Ls.length c) Ls ∧ Hid ((⟨x.l, y.l, z.l⟩ : L3) = (gHashN p VL m Q).2)) (fun t10 _ => 2 * M - (intOf t10).toNat)
  case atStart => exact ⟨0, 0, by omega, hide rfl, rfl, _, _, t, H0, E0⟩
  case round =>
    clear H0 E0
    obtain ⟨m, i, hm, hi, rfl, x, y, z, H, hE⟩ := hrel
    by_cases hlt : m < M
    · have hnx : Hid (gHashN p VL (m + 1) Q = gPerm 8 ((gHashN p VL m Q).1, gAbs p VL (2 * m) 2 (gHashN p VL m Q).2)) := hide rfl
      obtain ⟨QN, hQN⟩ : ∃ QN, QN = gHashN p VL (m + 1) Q := ⟨_, rfl⟩
      rw [← hQN, ← hi.out] at hnx
      have hS1 := hQp.out m
      have hS2 := hQb.out m
      have hS3 := hQl.out m
      obtain ⟨⟨S1, s⟩, hq⟩ : ∃ q : St × L3, q = gHashN p VL m Q := ⟨_, rfl⟩
      rw [← hq] at hS1 hS2 hS3 hnx H hE
      simp only at hS1 hS2 hS3 hnx H hE
      have hv1 : vld S1.p = true := by rw [hS1]; exact hv
      have hib : i ≤ 2000 := by have := hi.out; omega
      have hE' : Hid ((⟨x.l, y.l, z.l⟩ : L3) = gAbs p VL i 0 s) := hide (by rw [hE.out]; simp [gAbs])
      replace hS1 := hide hS1
      replace hS3 := hide hS3
      replace hQN := hide hQN
      have hcase := hide (hMl.out m hlt)
      by_cases hm0 : m = 0
      · have hi0 : ((i : Int) == 0) = true := by have := hi.out; simp; omega
        go_wp2_with fail
        go_loopw [45] (fun t45 wr => ∃ j : Nat, j ≤ 2 ∧ t45 = .int .i64 j ∧ ∃ x y z : Lc, HS w wr base b q0 S1 x y z B (.slice ad Ls.length c) Ls ∧ Hid ((⟨x.l, y.l, z.l⟩ : L3) = gAbs p VL i j s)) (fun t45 _ => 2 - (intOf t45).toNat)
        case atStart => exact ⟨0, by omega, rfl, x, y, z, H, hE'⟩
        case round =>
          clear H hE hE'
          obtain ⟨j, hj, rfl, x, y, z, H, hE⟩ := hrel
          by_cases hj2 : j < 2
          · obtain rfl | rfl : j = 0 ∨ j = 1 := by omega
            · by_cases hin2 : i < Ls.length
              · have hin3 : (i : Int) < Ls.length := by omega
                rcases H.ow.form with ⟨_, h0⟩ | ⟨gl, cap, cur, e4, _⟩
                · rw [h0] at hin2; simp at hin2
                obtain rfl : ad = some ⟨gl, 0, none⟩ := by injection e4
                have he := H.ow.cellE (i := i) (j := 0) default hin2 (by decide) rfl
                rw [show i * lcL.m + 0 = i from by show i * 1 + 0 = i; omega] at he
                have lu := H.ls _ (getD_mem' hin2 default)
                have hu := hlen.out _ (getD_mem' hin2 default)
                have hul : Hid ((Ls.getD i default).l = VL.getD i []) := hide (hVg.out _ hin2)
                generalize Ls.getD i default = u at *
                have he' := cell_later' (show wr.cell? ⟨gl, i, none⟩ = some (.slice u.ad u.l.length u.cap) from he)
                have km := cell_later' (H.blk.cell (j := 0) (v := .slice x.ad x.l.length x.cap) rfl)
                have hel : Hid (x.l = s.a) := hide (by have := congrArg L3.a hE.out; simpa [gAbs] using this)
                have hsl : x.l.length ≤ 4 := by rw [hel.out]; have := hS3.out; unfold Sm3 at this; omega
                have l1 := H.lx
                have hwi : IntKind.i64.wrap (i : Int) = (i : Int) := by rw [IntKind.wrap_i64]; omega
                have hti : (i : Int).toNat = i := by omega
                replace hu := hide hu
                clear he
                go_wp2_with fail
                refine Rel.wp_region_mix 12 [] [(11, IsLn (addL p s.a (VL.getD i [])))] Tryz.mixed (by kernel_rfl) (by kernel_rfl) ?_ ?_
                rotate_left
                simp only [List.take_succ_cons, List.take_zero, List.drop_succ_cons, List.drop_zero, List.map_cons, List.map_nil]
                repeat (first | (refine Rel.wpA_b (by rfl) ?_) | (refine Rel.wpA_step (by rfl) fun K hK => ?_; go_simp; first | (refine hK _ ?_; clear hK K) | (apply Exists.intro; refine ⟨fun _ => ?_, hK _ ?_⟩; (first | fail); clear hK K)))
                refine Rel.wpA_nil ?_
                rotate_left
                · intro z hz v u u' h1 h2
                  simp only [List.mem_cons, List.not_mem_nil, or_false] at hz
                  subst hz
                  exact IsLn.mono h1 h2
                refine Rel.wpB_step _ rfl rfl (fun p' hc => ?_) (fun v11 => ?_)
                · refine rU_of' (fr := false) (r := .ok (.enter 156 #[.int .u64 p, .slice x.ad x.l.length x.cap, .slice u.ad u.l.length u.cap]) (later wr p')) (by kernel_rfl) (by kernel_rfl) ?_
                  have cA := gAdd_any p x u (later wr p') (l1.mono (below_later _ _)).ok (lu.mono (below_later _ _)).ok (fun _ => by have := hu.out; omega)
                  rw [show addP p x.l u.l 1 = addL p s.a (VL.getD i []) by rw [hel.out, hul.out]; rfl] at cA
                  exact rU_ln cA
                refine Rel.wpB_nil ?_
                intro p' hctx hfr
                simp only [List.nil_append, List.mem_cons, List.not_mem_nil, or_false, forall_eq] at hctx
                obtain ⟨n, rfl, en, ln⟩ := hctx
                have hbl := below_later wr p'
                clear hfr km he' l1 lu
                generalize later wr p' = w4 at *
                replace H := H.below hbl
                have f := H.blk.free 0
                have cq := H.blk.cell (j := 0) (v := .slice x.ad x.l.length x.cap) rfl
                have HH := H.set hqz hb0 0 n n y z rfl ln H.ly H.lz
                have hE2 : Hid ((⟨n.l, y.l, z.l⟩ : L3) = gAbs p VL i 1 s) := hide (by
                  have e1 := congrArg L3.a hE.out
                  have e2 := congrArg L3.b hE.out
                  have e3 := congrArg L3.c hE.out
                  have hvl := hVl.out
                  have hc1 : i < VL.length := by omega
                  simp only [gAbs] at e1 e2 e3 ⊢
                  first
                    | (have hc2 : i + 1 < VL.length := by omega
                       simp_all [en.out])
                    | simp_all [en.out])
                clear hbl hE hel hul H hwi hti
                go_wp2
                go_roundw
                case rel => exact ⟨1, by omega, rfl, _, _, _, HH, hE2⟩
                case measure => simp [intOf]
              · have hin3 : ¬ (i : Int) < Ls.length := by omega
                have hE2 : Hid ((⟨x.l, y.l, z.l⟩ : L3) = gAbs p VL i 1 s) := hide (by
                  rw [hE.out]
                  have hvl := hVl.out
                  simp only [gAbs]
                  rw [hvl]
                  rw [if_neg (by omega), if_neg (by omega), if_neg (by omega), if_neg (by omega)])
                clear hE
                go_wp2
                go_roundw
                case rel => exact ⟨1, by omega, rfl, _, _, _, H, hE2⟩
                case measure => simp [intOf]
            · by_cases hin2 : i + 1 < Ls.length
              · have hin3 : (i : Int) + 1 < Ls.length := by omega
                rcases H.ow.form with ⟨_, h0⟩ | ⟨gl, cap, cur, e4, _⟩
                · rw [h0] at hin2; simp at hin2
                obtain rfl : ad = some ⟨gl, 0, none⟩ := by injection e4
                have he := H.ow.cellE (i := i + 1) (j := 0) default hin2 (by decide) rfl
                rw [show (i + 1) * lcL.m + 0 = i + 1 from by show (i + 1) * 1 + 0 = i + 1; omega] at he
                have lu := H.ls _ (getD_mem' hin2 default)
                have hu := hlen.out _ (getD_mem' hin2 default)
                have hul : Hid ((Ls.getD (i + 1) default).l = VL.getD (i + 1) []) := hide (hVg.out _ hin2)
                generalize Ls.getD (i + 1) default = u at *
                have he' := cell_later' (show wr.cell? ⟨gl, i + 1, none⟩ = some (.slice u.ad u.l.length u.cap) from he)
                have km := cell_later' (H.blk.cell (j := 1) (v := .slice y.ad y.l.length y.cap) rfl)
                have hel : Hid (y.l = s.b) := hide (by have := congrArg L3.b hE.out; simpa [gAbs] using this)
                have hsl : y.l.length ≤ 4 := by rw [hel.out]; have := hS3.out; unfold Sm3 at this; omega
                have l1 := H.ly
                have hwi : IntKind.i64.wrap ((i : Int) + 1) = (i : Int) + 1 := by rw [IntKind.wrap_i64]; omega
                have hti : ((i : Int) + 1).toNat = i + 1 := by omega
                have hnn : (0 : Int) ≤ (i : Int) + 1 := by omega
                replace hu := hide hu
                clear he
                go_wp2_with fail
                refine Rel.wp_region_mix 12 [] [(11, IsLn (addL p s.b (VL.getD (i + 1) [])))] Tryz.mixed (by kernel_rfl) (by kernel_rfl) ?_ ?_
                rotate_left
                simp only [List.take_succ_cons, List.take_zero, List.drop_succ_cons, List.drop_zero, List.map_cons, List.map_nil]
                repeat (first | (refine Rel.wpA_b (by rfl) ?_) | (refine Rel.wpA_step (by rfl) fun K hK => ?_; go_simp; first | (refine hK _ ?_; clear hK K) | (apply Exists.intro; refine ⟨fun _ => ?_, hK _ ?_⟩; (first | fail); clear hK K)))
                refine Rel.wpA_nil ?_
                rotate_left
                · intro z hz v u u' h1 h2
                  simp only [List.mem_cons, List.not_mem_nil, or_false] at hz
                  subst hz
                  exact IsLn.mono h1 h2
                refine Rel.wpB_step _ rfl rfl (fun p' hc => ?_) (fun v11 => ?_)
                · refine rU_of' (fr := false) (r := .ok (.enter 156 #[.int .u64 p, .slice y.ad y.l.length y.cap, .slice u.ad u.l.length u.cap]) (later wr p')) (by kernel_rfl) (by kernel_rfl) ?_
                  have cA := gAdd_any p y u (later wr p') (l1.mono (below_later _ _)).ok (lu.mono (below_later _ _)).ok (fun _ => by have := hu.out; omega)
                  rw [show addP p y.l u.l 1 = addL p s.b (VL.getD (i + 1) []) by rw [hel.out, hul.out]; rfl] at cA
                  exact rU_ln cA
                refine Rel.wpB_nil ?_
                intro p' hctx hfr
                simp only [List.nil_append, List.mem_cons, List.not_mem_nil, or_false, forall_eq] at hctx
                obtain ⟨n, rfl, en, ln⟩ := hctx
                have hbl := below_later wr p'
                clear hfr km he' l1 lu
                generalize later wr p' = w4 at *
                replace H := H.below hbl
                have f := H.blk.free 1
                have cq := H.blk.cell (j := 1) (v := .slice y.ad y.l.length y.cap) rfl
                have HH := H.set hqz hb0 1 n x n z rfl H.lx ln H.lz
                have hE2 : Hid ((⟨x.l, n.l, z.l⟩ : L3) = gAbs p VL i 2 s) := hide (by
                  have e1 := congrArg L3.a hE.out
                  have e2 := congrArg L3.b hE.out
                  have e3 := congrArg L3.c hE.out
                  have hvl := hVl.out
                  have hc1 : i < VL.length := by omega
                  simp only [gAbs] at e1 e2 e3 ⊢
                  first
                    | (have hc2 : i + 1 < VL.length := by omega
                       simp_all [en.out])
                    | simp_all [en.out])
                clear hbl hE hel hul H hwi hti
                go_wp2
                go_roundw
                case rel => exact ⟨2, by omega, rfl, _, _, _, HH, hE2⟩
                case measure => simp [intOf]
              · have hin3 : ¬ (i : Int) + 1 < Ls.length := by omega
                have hE2 : Hid ((⟨x.l, y.l, z.l⟩ : L3) = gAbs p VL i 2 s) := hide (by
                  rw [hE.out]
                  have hvl := hVl.out
                  simp only [gAbs]
                  rw [hvl]
                  rw [if_neg (show ¬ (1 < 1 ∧ i + 1 < Ls.length) by omega), if_neg (show ¬ (1 < 2 ∧ i + 1 < Ls.length) by omega)]
                  simp)
                clear hE
                go_wp2
                go_roundw
                case rel => exact ⟨2, by omega, rfl, _, _, _, H, hE2⟩
                case measure => simp [intOf]
          · obtain rfl : j = 2 := by omega
            rw [show ((2 : Nat) : Int) = 2 from rfl]
            have hsm : Sm3 30000 ⟨x.l, y.l, z.l⟩ := by
              rw [hE.out]
              obtain ⟨s1, s2, s3⟩ := gAbs_len (p := p) (VL := VL) (i := i) (j := 2) hS3.out hV100.out
              exact ⟨by omega, by omega, by omega⟩
            have m0 := H.blk.cell (j := 0) (v := .slice x.ad x.l.length x.cap) rfl
            have m1 := H.blk.cell (j := 1) (v := .slice y.ad y.l.length y.cap) rfl
            have m2 := H.blk.cell (j := 2) (v := .slice z.ad z.l.length z.cap) rfl
            have cP := permute20_any base b S1 _ x y z wr H.bld hv1 hS2 (by omega) H.lx H.ly H.lz hsm
            have hiM : i < 2 * M := by have := hi.out; omega
            go_wp2_with fail
            refine cP.mono ?_
            rintro e w4 ⟨x', y', z', he4, e4, lx', ly', lz', hB4, k4⟩
            have he5 : e = .returned (.agg #[.slice x'.ad x'.l.length x'.cap, .slice y'.ad y'.l.length y'.cap, .slice z'.ad z'.l.length z'.cap]) := he4
            subst he5
            clear he4
            rw [hE.out] at e4 hB4
            have H4 := H.keep k4 hB4
            clear m0 m1 m2 cP H k4 hB4
            have f := H4.blk.free
            have m0 := H4.blk.cell (j := 0) (v := .slice x.ad x.l.length x.cap) rfl
            have m1 := H4.blk.cell (j := 1) (v := .slice y.ad y.l.length y.cap) rfl
            have m2 := H4.blk.cell (j := 2) (v := .slice z.ad z.l.length z.cap) rfl
            have HA := H4.set hqz hb0 0 x' x' y z rfl lx' H4.ly H4.lz
            have ly2 := ly'.setType (j := 0) (u := lcV x') H4.blk (by decide)
            have lz2 := lz'.setType (j := 0) (u := lcV x') H4.blk (by decide)
            have HB := HA.set hqz hb0 1 y' x' y' z rfl HA.lx ly2 HA.lz
            have lz3 := lz2.setType (j := 1) (u := lcV y') HA.blk (by decide)
            have HC := HB.set hqz hb0 2 z' x' y' z' rfl HB.lx HB.ly lz3
            have HN : HS w (((w4.setCell ⟨q0, 0, none⟩ (lcV x')).setCell ⟨q0, 1, none⟩ (lcV y')).setCell ⟨q0, 2, none⟩ (lcV z')) base b q0 (gHashN p VL (m + 1) Q).1 x' y' z' B (.slice ad Ls.length c) Ls := by rw [← hQN.out, hnx]; exact HC
            have EN : Hid ((⟨x'.l, y'.l, z'.l⟩ : L3) = (gHashN p VL (m + 1) Q).2) := hide (by rw [← hQN.out, hnx]; exact e4.out)
            have hi2 : Hid (i + 2 = 2 * (m + 1)) := hide (by have := hi.out; omega)
            clear HA HB HC H4 ly2 lz2 lz3 lx' ly' lz' e4 hE
            go_wp2
            go_roundw
            case rel => exact ⟨m + 1, i + 2, by omega, hi2, by go_num, x', y', z', HN, EN⟩
            case measure => simp [intOf]; omega
      · have hi0 : ((i : Int) == 0) = false := by have := hi.out; simp; omega
        have hin : (i : Int) < Ls.length := by have := hi.out; have := hcase.out; omega
        go_wp2_with fail
        go_loopw [45] (fun t45 wr => ∃ j : Nat, j ≤ 2 ∧ t45 = .int .i64 j ∧ ∃ x y z : Lc, HS w wr base b q0 S1 x y z B (.slice ad Ls.length c) Ls ∧ Hid ((⟨x.l, y.l, z.l⟩ : L3) = gAbs p VL i j s)) (fun t45 _ => 2 - (intOf t45).toNat)
        case atStart => exact ⟨0, by omega, rfl, x, y, z, H, hE'⟩
        case round =>
          clear H hE hE'
          obtain ⟨j, hj, rfl, x, y, z, H, hE⟩ := hrel
          by_cases hj2 : j < 2
          · obtain rfl | rfl : j = 0 ∨ j = 1 := by omega
            · by_cases hin2 : i < Ls.length
              · have hin3 : (i : Int) < Ls.length := by omega
                rcases H.ow.form with ⟨_, h0⟩ | ⟨gl, cap, cur, e4, _⟩
                · rw [h0] at hin2; simp at hin2
                obtain rfl : ad = some ⟨gl, 0, none⟩ := by injection e4
                have he := H.ow.cellE (i := i) (j := 0) default hin2 (by decide) rfl
                rw [show i * lcL.m + 0 = i from by show i * 1 + 0 = i; omega] at he
                have lu := H.ls _ (getD_mem' hin2 default)
                have hu := hlen.out _ (getD_mem' hin2 default)
                have hul : Hid ((Ls.getD i default).l = VL.getD i []) := hide (hVg.out _ hin2)
                generalize Ls.getD i default = u at *
                have he' := cell_later' (show wr.cell? ⟨gl, i, none⟩ = some (.slice u.ad u.l.length u.cap) from he)
                have km := cell_later' (H.blk.cell (j := 0) (v := .slice x.ad x.l.length x.cap) rfl)
                have hel : Hid (x.l = s.a) := hide (by have := congrArg L3.a hE.out; simpa [gAbs] using this)
                have hsl : x.l.length ≤ 4 := by rw [hel.out]; have := hS3.out; unfold Sm3 at this; omega
                have l1 := H.lx
                have hwi : IntKind.i64.wrap (i : Int) = (i : Int) := by rw [IntKind.wrap_i64]; omega
                have hti : (i : Int).toNat = i := by omega
                replace hu := hide hu
                clear he
                go_wp2_with fail
                refine Rel.wp_region_mix 12 [] [(11, IsLn (addL p s.a (VL.getD i [])))] Tryz.mixed (by kernel_rfl) (by kernel_rfl) ?_ ?_
                rotate_left
                simp only [List.take_succ_cons, List.take_zero, List.drop_succ_cons, List.drop_zero, List.map_cons, List.map_nil]
                repeat (first | (refine Rel.wpA_b (by rfl) ?_) | (refine Rel.wpA_step (by rfl) fun K hK => ?_; go_simp; first | (refine hK _ ?_; clear hK K) | (apply Exists.intro; refine ⟨fun _ => ?_, hK _ ?_⟩; (first | fail); clear hK K)))
                refine Rel.wpA_nil ?_
                rotate_left
                · intro z hz v u u' h1 h2
                  simp only [List.mem_cons, List.not_mem_nil, or_false] at hz
                  subst hz
                  exact IsLn.mono h1 h2
                refine Rel.wpB_step _ rfl rfl (fun p' hc => ?_) (fun v11 => ?_)
                · refine rU_of' (fr := false) (r := .ok (.enter 156 #[.int .u64 p, .slice x.ad x.l.length x.cap, .slice u.ad u.l.length u.cap]) (later wr p')) (by kernel_rfl) (by kernel_rfl) ?_
                  have cA := gAdd_any p x u (later wr p') (l1.mono (below_later _ _)).ok (lu.mono (below_later _ _)).ok (fun _ => by have := hu.out; omega)
                  rw [show addP p x.l u.l 1 = addL p s.a (VL.getD i []) by rw [hel.out, hul.out]; rfl] at cA
                  exact rU_ln cA
                refine Rel.wpB_nil ?_
                intro p' hctx hfr
                simp only [List.nil_append, List.mem_cons, List.not_mem_nil, or_false, forall_eq] at hctx
                obtain ⟨n, rfl, en, ln⟩ := hctx
                have hbl := below_later wr p'
                clear hfr km he' l1 lu
                generalize later wr p' = w4 at *
                replace H := H.below hbl
                have f := H.blk.free 0
                have cq := H.blk.cell (j := 0) (v := .slice x.ad x.l.length x.cap) rfl
                have HH := H.set hqz hb0 0 n n y z rfl ln H.ly H.lz
                have hE2 : Hid ((⟨n.l, y.l, z.l⟩ : L3) = gAbs p VL i 1 s) := hide (by
                  have e1 := congrArg L3.a hE.out
                  have e2 := congrArg L3.b hE.out
                  have e3 := congrArg L3.c hE.out
                  have hvl := hVl.out
                  have hc1 : i < VL.length := by omega
                  simp only [gAbs] at e1 e2 e3 ⊢
                  first
                    | (have hc2 : i + 1 < VL.length := by omega
                       simp_all [en.out])
                    | simp_all [en.out])
                clear hbl hE hel hul H hwi hti
                go_wp2
                go_roundw
                case rel => exact ⟨1, by omega, rfl, _, _, _, HH, hE2⟩
                case measure => simp [intOf]
              · exact absurd hin (by omega)
            · by_cases hin2 : i + 1 < Ls.length
              · have hin3 : (i : Int) + 1 < Ls.length := by omega
                rcases H.ow.form with ⟨_, h0⟩ | ⟨gl, cap, cur, e4, _⟩
                · rw [h0] at hin2; simp at hin2
                obtain rfl : ad = some ⟨gl, 0, none⟩ := by injection e4
                have he := H.ow.cellE (i := i + 1) (j := 0) default hin2 (by decide) rfl
                rw [show (i + 1) * lcL.m + 0 = i + 1 from by show (i + 1) * 1 + 0 = i + 1; omega] at he
                have lu := H.ls _ (getD_mem' hin2 default)
                have hu := hlen.out _ (getD_mem' hin2 default)
                have hul : Hid ((Ls.getD (i + 1) default).l = VL.getD (i + 1) []) := hide (hVg.out _ hin2)
                generalize Ls.getD (i + 1) default = u at *
                have he' := cell_later' (show wr.cell? ⟨gl, i + 1, none⟩ = some (.slice u.ad u.l.length u.cap) from he)
                have km := cell_later' (H.blk.cell (j := 1) (v := .slice y.ad y.l.length y.cap) rfl)
                have hel : Hid (y.l = s.b) := hide (by have := congrArg L3.b hE.out; simpa [gAbs] using this)
                have hsl : y.l.length ≤ 4 := by rw [hel.out]; have := hS3.out; unfold Sm3 at this; omega
                have l1 := H.ly
                have hwi : IntKind.i64.wrap ((i : Int) + 1) = (i : Int) + 1 := by rw [IntKind.wrap_i64]; omega
                have hti : ((i : Int) + 1).toNat = i + 1 := by omega
                have hnn : (0 : Int) ≤ (i : Int) + 1 := by omega
                replace hu := hide hu
                clear he
                go_wp2_with fail
                refine Rel.wp_region_mix 12 [] [(11, IsLn (addL p s.b (VL.getD (i + 1) [])))] Tryz.mixed (by kernel_rfl) (by kernel_rfl) ?_ ?_
                rotate_left
                simp only [List.take_succ_cons, List.take_zero, List.drop_succ_cons, List.drop_zero, List.map_cons, List.map_nil]
                repeat (first | (refine Rel.wpA_b (by rfl) ?_) | (refine Rel.wpA_step (by rfl) fun K hK => ?_; go_simp; first | (refine hK _ ?_; clear hK K) | (apply Exists.intro; refine ⟨fun _ => ?_, hK _ ?_⟩; (first | fail); clear hK K)))
                refine Rel.wpA_nil ?_
                rotate_left
                · intro z hz v u u' h1 h2
                  simp only [List.mem_cons, List.not_mem_nil, or_false] at hz
                  subst hz
                  exact IsLn.mono h1 h2
                refine Rel.wpB_step _ rfl rfl (fun p' hc => ?_) (fun v11 => ?_)
                · refine rU_of' (fr := false) (r := .ok (.enter 156 #[.int .u64 p, .slice y.ad y.l.length y.cap, .slice u.ad u.l.length u.cap]) (later wr p')) (by kernel_rfl) (by kernel_rfl) ?_
                  have cA := gAdd_any p y u (later wr p') (l1.mono (below_later _ _)).ok (lu.mono (below_later _ _)).ok (fun _ => by have := hu.out; omega)
                  rw [show addP p y.l u.l 1 = addL p s.b (VL.getD (i + 1) []) by rw [hel.out, hul.out]; rfl] at cA
                  exact rU_ln cA
                refine Rel.wpB_nil ?_
                intro p' hctx hfr
                simp only [List.nil_append, List.mem_cons, List.not_mem_nil, or_false, forall_eq] at hctx
                obtain ⟨n, rfl, en, ln⟩ := hctx
                have hbl := below_later wr p'
                clear hfr km he' l1 lu
                generalize later wr p' = w4 at *
                replace H := H.below hbl
                have f := H.blk.free 1
                have cq := H.blk.cell (j := 1) (v := .slice y.ad y.l.length y.cap) rfl
                have HH := H.set hqz hb0 1 n x n z rfl H.lx ln H.lz
                have hE2 : Hid ((⟨x.l, n.l, z.l⟩ : L3) = gAbs p VL i 2 s) := hide (by
                  have e1 := congrArg L3.a hE.out
                  have e2 := congrArg L3.b hE.out
                  have e3 := congrArg L3.c hE.out
                  have hvl := hVl.out
                  have hc1 : i < VL.length := by omega
                  simp only [gAbs] at e1 e2 e3 ⊢
                  first
                    | (have hc2 : i + 1 < VL.length := by omega
                       simp_all [en.out])
                    | simp_all [en.out])
                clear hbl hE hel hul H hwi hti
                go_wp2
                go_roundw
                case rel => exact ⟨2, by omega, rfl, _, _, _, HH, hE2⟩
                case measure => simp [intOf]
              · have hin3 : ¬ (i : Int) + 1 < Ls.length := by omega
                have hE2 : Hid ((⟨x.l, y.l, z.l⟩ : L3) = gAbs p VL i 2 s) := hide (by
                  rw [hE.out]
                  have hvl := hVl.out
                  simp only [gAbs]
                  rw [hvl]
                  rw [if_neg (show ¬ (1 < 1 ∧ i + 1 < Ls.length) by omega), if_neg (show ¬ (1 < 2 ∧ i + 1 < Ls.length) by omega)]
                  simp)
                clear hE
                go_wp2
                go_roundw
                case rel => exact ⟨2, by omega, rfl, _, _, _, H, hE2⟩
                case measure => simp [intOf]
          · obtain rfl : j = 2 := by omega
            rw [show ((2 : Nat) : Int) = 2 from rfl]
            have hsm : Sm3 30000 ⟨x.l, y.l, z.l⟩ := by
              rw [hE.out]
              obtain ⟨s1, s2, s3⟩ := gAbs_len (p := p) (VL := VL) (i := i) (j := 2) hS3.out hV100.out
              exact ⟨by omega, by omega, by omega⟩
            have m0 := H.blk.cell (j := 0) (v := .slice x.ad x.l.length x.cap) rfl
            have m1 := H.blk.cell (j := 1) (v := .slice y.ad y.l.length y.cap) rfl
            have m2 := H.blk.cell (j := 2) (v := .slice z.ad z.l.length z.cap) rfl
            have cP := permute20_any base b S1 _ x y z wr H.bld hv1 hS2 (by omega) H.lx H.ly H.lz hsm
            have hiM : i < 2 * M := by have := hi.out; omega
            go_wp2_with fail
            refine cP.mono ?_
            rintro e w4 ⟨x', y', z', he4, e4, lx', ly', lz', hB4, k4⟩
            have he5 : e = .returned (.agg #[.slice x'.ad x'.l.length x'.cap, .slice y'.ad y'.l.length y'.cap, .slice z'.ad z'.l.length z'.cap]) := he4
            subst he5
            clear he4
            rw [hE.out] at e4 hB4
            have H4 := H.keep k4 hB4
            clear m0 m1 m2 cP H k4 hB4
            have f := H4.blk.free
            have m0 := H4.blk.cell (j := 0) (v := .slice x.ad x.l.length x.cap) rfl
            have m1 := H4.blk.cell (j := 1) (v := .slice y.ad y.l.length y.cap) rfl
            have m2 := H4.blk.cell (j := 2) (v := .slice z.ad z.l.length z.cap) rfl
            have HA := H4.set hqz hb0 0 x' x' y z rfl lx' H4.ly H4.lz
            have ly2 := ly'.setType (j := 0) (u := lcV x') H4.blk (by decide)
            have lz2 := lz'.setType (j := 0) (u := lcV x') H4.blk (by decide)
            have HB := HA.set hqz hb0 1 y' x' y' z rfl HA.lx ly2 HA.lz
            have lz3 := lz2.setType (j := 1) (u := lcV y') HA.blk (by decide)
            have HC := HB.set hqz hb0 2 z' x' y' z' rfl HB.lx HB.ly lz3
            have HN : HS w (((w4.setCell ⟨q0, 0, none⟩ (lcV x')).setCell ⟨q0, 1, none⟩ (lcV y')).setCell ⟨q0, 2, none⟩ (lcV z')) base b q0 (gHashN p VL (m + 1) Q).1 x' y' z' B (.slice ad Ls.length c) Ls := by rw [← hQN.out, hnx]; exact HC
            have EN : Hid ((⟨x'.l, y'.l, z'.l⟩ : L3) = (gHashN p VL (m + 1) Q).2) := hide (by rw [← hQN.out, hnx]; exact e4.out)
            have hi2 : Hid (i + 2 = 2 * (m + 1)) := hide (by have := hi.out; omega)
            clear HA HB HC H4 ly2 lz2 lz3 lx' ly' lz' e4 hE
            go_wp2
            go_roundw
            case rel => exact ⟨m + 1, i + 2, by omega, hi2, by go_num, x', y', z', HN, EN⟩
            case measure => simp [intOf]; omega
    · obtain rfl : m = M := by omega
      have hi0 : ((i : Int) == 0) = false := by have := hi.out; simp; omega
      have hin : ¬ (i : Int) < Ls.length := by have := hi.out; omega
      have m0 := H.blk.cell (j := 0) (v := .slice x.ad x.l.length x.cap) rfl
      go_wp2
      go_ret
      exact ⟨x, rfl, hide (congrArg L3.a hE.out), H.lx, H.bld, H.kept⟩
end Go.Proofs.YtalmgeefkcebdaaGreatDoor

