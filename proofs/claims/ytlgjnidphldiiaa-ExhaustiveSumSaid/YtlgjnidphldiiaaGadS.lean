/- Gadgets: Select of the program; frames by types; the circuit of GadgetMeaning, on values. -/
import Derived.Test.YtlgjnidphldiiaaGadIL
import Derived.Test.YtlgjnidphldiiaaGm
namespace Go.Proofs.Ytlgjnidphldiiaa
open Go.RowKit

set_option maxRecDepth 10000 in
set_option maxHeartbeats 8000000 in
theorem Select20_any (base b : Nat) (S : St) (N : Int) (c x y : Lc) (w : World) (h : Bld w base b S) (hv : vld S.p = true) (hS : Bd S N) (hN : N ≤ 900000000) (hc : LinT w c) (hx : LinT w x) (hy : LinT w y) (lc : c.l.length ≤ 100000) (lx : x.l.length ≤ 100000) (ly : y.l.length ≤ 100000) :
    Calls Try.prog 49 #[.pointer (some ⟨b, 0, none⟩), .slice c.ad c.l.length c.cap, .slice x.ad x.l.length x.cap, .slice y.ad y.l.length y.cap] w (RetB w base b (gSelect S c.l x.l y.l).1 (gSelect S c.l x.l y.l).2) := by
  obtain ⟨cs, g, hc0⟩ := h.cell0
  have hb0 := h.lt
  have c0 := g.cell hc0
  have la := addP_len S.p x.l y.l (fneg S.p 1)
  go_enter Try.func49, Try.ntmps49
  go_wp2_with fail
  go_region_held3 (fun w' => w'.cell? ⟨b, 0, none⟩ = some (.int .u64 S.p))
    (first
      | go_keep
      | exact cell_below hb1 c0
      | exact c02
      | exact cell_below hb3 c02)
    (first
      | (go_at_call 28; refine (gSub_any S.p x y _ (hx.mono (Below.refl _ _).drew).ok (hy.mono (Below.refl _ _).drew).ok (fun _ => by omega)).mono ?_; rintro e w1 ⟨d, rfl, ed, hd, hb1⟩; have ld : d.l.length ≤ 200000 := by rw [ed.out]; omega)
      | (go_at_call 67; refine (Mul20_any base b S N c d _ ((h.mono (Below.refl _ _).drew).mono hb1) hv hS (by omega) ((hc.mono (Below.refl _ _).drew).mono hb1) hd (by omega) (by omega)).mono ?_; rintro e w2 ⟨m, rfl, em, hm, hB2, k2⟩; obtain ⟨cs2, g2, h02⟩ := hB2.cell0; have c02 : w2.cell? ⟨b, 0, none⟩ = some (.int .u64 S.p) := g2.cell h02; have lm : m.l.length ≤ 1 := by rw [em.out]; exact Nat.le_refl _)
      | (go_at_call 26; refine (gAdd_any S.p y m _ (k2.lin ((hy.mono (Below.refl _ _).drew).mono hb1)).ok hm.ok (fun _ => by omega)).mono ?_; rintro e w3 ⟨r, rfl, er, hr, hb3⟩))
  go_wp2
  go_ret
  refine ⟨r, rfl, hide (by rw [er.out, em.out]; rfl), hr, ?_, ?_⟩
  · rw [ed.out] at hB2
    exact hB2.mono hb3
  · exact ((Kept.of_below (below2 ((Below.refl _ _).drew) hb1) hb0).trans k2).trans (Kept.of_below hb3 hB2.lt)

/-- w' is w behind calls that change blocks of the types of X alone. -/
structure KX (X : TypeId → Prop) (base : Nat) (w w' : World) : Prop where
  below : Below base w w'
  typ : ∀ (b : Nat) (cs : Array Value) (T : TypeId), Blk w b cs T → ¬ X T → Blk w' b cs T
theorem KX.refl (X : TypeId → Prop) (base : Nat) (w : World) : KX X base w w := ⟨Below.refl _ _, fun _ _ _ h _ => h⟩
theorem KX.trans {X : TypeId → Prop} {base : Nat} {w w' w2 : World} (h : KX X base w w') (k : KX X base w' w2) : KX X base w w2 :=
  ⟨h.below.trans k.below, fun b cs T g h1 => k.typ b cs T (h.typ b cs T g h1) h1⟩
theorem KX.of_below {X : TypeId → Prop} {base : Nat} {w w' : World} (h : Below w.heap.size w w') (hb : base ≤ w.heap.size) : KX X base w w' := ⟨h.mono hb, fun _ _ _ g _ => g.mono h⟩
theorem KX.lin {X : TypeId → Prop} {base : Nat} {w w' : World} {s : Lc} (k : KX X base w w') (hX : ¬ X 100) (h : LinT w s) : LinT w' s := by
  by_cases e : s.l = []
  · exact ⟨lc_nil h.ok e _, fun h0 => absurd e h0⟩
  · obtain ⟨b, off, cs, e2, g⟩ := h.blk e
    have g' := k.typ b cs _ g hX
    refine ⟨⟨fun h0 => ?_, h.ok.wl, h.ok.le, h.ok.mx⟩, fun _ => ⟨b, off, cs, e2, g'⟩⟩
    obtain ⟨b', off', e3, hl, hc⟩ := h.ok.sl h0
    rw [e2] at e3
    cases e3
    have hh : w'.heap[b]? = w.heap[b]? := by
      have h1 : w.heap[b]? = _ := g
      have h2 : w'.heap[b]? = _ := g'
      rw [h1, h2]
    exact ⟨b, off, e2, Nat.lt_of_lt_of_le hl k.below.size, fun i hi => ⟨by rw [World.cell?_of_block (w := w) hh]; exact (hc i hi).1, by rw [World.cell?_of_block (w := w) hh]; exact (hc i hi).2⟩⟩
theorem KX.own {α : Type} {X : TypeId → Prop} {L : Lay α} {w w' : World} {base b0 : Nat} {E : TypeId} {v : Value} {xs : List α} (k : KX X base w w') (hX : ¬ X E) (h : OwnG L w b0 E v xs) : OwnG L w' b0 E v xs := by
  rcases h.form with ⟨rfl, rfl⟩ | ⟨g, cap, cur, rfl, g1, g2, g3, g4, g5, g6⟩
  · exact OwnG.nil _ _ _ _
  · exact OwnG.of_blk g1 (k.typ g cur E g2 hX) g3 g4 g5 g6
theorem KX.bld {X : TypeId → Prop} {w w' : World} {base b0 b : Nat} {S : St} {A : Nat → Prop} (k : KX X b0 w w') (h1 : ¬ X 106) (h2 : ¬ X 108) (h3 : ¬ X 104) (h4 : ¬ X 100) (h : Bld w base b S A) : Bld w' base b S A := by
  obtain ⟨vr, R, vh, H, h⟩ := h
  exact ⟨vr, R, vh, H, k.typ _ _ _ h.blk h3, h.lo, k.own h1 h.rows, k.own h2 h.hints, fun r hr => ⟨k.lin h4 (h.rok r hr).1, k.lin h4 (h.rok r hr).2.1, k.lin h4 (h.rok r hr).2.2⟩, fun r hr => ⟨k.lin h4 (h.hok r hr).1, k.lin h4 (h.hok r hr).2.1, (h.hok r hr).2.2⟩, h.rv, h.hv, h.rav, h.hav⟩
theorem KX.grew {α : Type} {X : TypeId → Prop} {L : Lay α} {w w' : World} {base : Nat} {T : TypeId} {v v' : Value} {xs : List α} (ho : OwnG L w base T v xs) (hg : Grew w w' v v') (hX : X T) (hb : base ≤ w.heap.size) : KX X base w w' :=
  ⟨hg.belowG (Below.refl _ _) ho (Nat.le_refl _) hb, fun _ _ _ g' h1 => hg.blk g' (ho.neq g' (fun e => h1 (e ▸ hX)))⟩
theorem KX.set {X : TypeId → Prop} {w : World} {base b j : Nat} {cs : Array Value} {T : TypeId} {u : Value} (g : Blk w b cs T) (hX : X T) (hb : base ≤ b) : KX X base w (w.setCell ⟨b, j, none⟩ u) :=
  ⟨(Below.refl _ _).setCell hb _, fun _ _ _ g' h3 => g'.other (fun e => by subst e; exact h3 ((blk_type g' g) ▸ hX)) _ _⟩

theorem Bld.low {w : World} {base b0 b : Nat} {S : St} {A : Nat → Prop} (h : Bld w base b S A) (hb : b0 ≤ base) : Bld w b0 b S A := by
  obtain ⟨vr, R, vh, H, h⟩ := h
  exact ⟨vr, R, vh, H, h.blk, by have := h.lo; omega, h.rows.low hb, h.hints.low hb, h.rok, h.hok, h.rv, h.hv, h.rav, h.hav⟩
/-- Lists of combinations, and the variables that hold them. -/
def XLn (T : TypeId) : Prop := T = 44 ∨ T = 55
theorem xln1 : XLn 44 := .inl rfl
theorem xln2 : XLn 55 := .inr rfl
theorem xlnT : ¬ XLn 100 := by unfold XLn; decide
theorem xlnR : ¬ XLn 106 := by unfold XLn; decide
theorem xlnH : ¬ XLn 108 := by unfold XLn; decide
theorem xlnB : ¬ XLn 104 := by unfold XLn; decide

theorem xlnS : ¬ XLn 66 := by unfold XLn; decide

def IsL3 (n : Nat) (L1 L2 : Lin) (v : Value) (w : World) : Prop := ∃ (s1 s2 : Lc) (b : Nat), v = .slice (some ⟨b, 0, none⟩) 3 3 ∧ n ≤ b ∧ Blk w b #[.slice none 0 0, lcV s1, lcV s2] 44 ∧ Hid (s1.l = L1) ∧ LinT w s1 ∧ Hid (s2.l = L2) ∧ LinT w s2
theorem IsL3.mono {n : Nat} {L1 L2 : Lin} {v : Value} {w w' : World} (h : IsL3 n L1 L2 v w) (hb : Below w.heap.size w w') : IsL3 n L1 L2 v w' := by
  obtain ⟨s1, s2, b, h1, h2, h3, h4, h5, h6, h7⟩ := h
  exact ⟨s1, s2, b, h1, h2, h3.mono hb, h4, h5.mono hb, h6, h7.mono hb⟩
def IsL1 (n : Nat) (L : Lin) (v : Value) (w : World) : Prop := ∃ (s : Lc) (b : Nat), v = .slice (some ⟨b, 0, none⟩) 1 1 ∧ n ≤ b ∧ Blk w b #[lcV s] 44 ∧ Hid (s.l = L) ∧ LinT w s
theorem IsL1.mono {n : Nat} {L : Lin} {v : Value} {w w' : World} (h : IsL1 n L v w) (hb : Below w.heap.size w w') : IsL1 n L v w' := by
  obtain ⟨s, b, h1, h2, h3, h4, h5⟩ := h
  exact ⟨s, b, h1, h2, h3.mono hb, h4, h5.mono hb⟩
def IsBx (n : Nat) (cs : Array Value) (T : TypeId) (v : Value) (w : World) : Prop := ∃ b, v = .pointer (some ⟨b, 0, none⟩) ∧ n ≤ b ∧ Blk w b cs T
theorem IsBx.mono {n : Nat} {cs : Array Value} {T : TypeId} {v : Value} {w w' : World} (h : IsBx n cs T v w) (hb : Below w.heap.size w w') : IsBx n cs T v w' := by
  obtain ⟨b, h1, h2, h3⟩ := h
  exact ⟨b, h1, h2, h3.mono hb⟩
theorem rU_bx {P : Program} (W : World) (p : Later) (cs : Array Value) (E : TypeId) :
    Rel.rUpon P (later W p) false (IsBx W.heap.size cs E) (.ok (.value (.pointer (some ⟨(later W p).heap.size, 0, none⟩))) ((later W p).alloc (.cells cs E))) :=
  ⟨(Below.refl _ _).alloc (Nat.le_refl _) _, ⟨_, rfl, (below_later W p).size, Blk.new _ _ _⟩, fun h => by cases h⟩
theorem rU_l1 {P : Program} (W : World) (p : Later) (s : Lc) (L : Lin) (e : Hid (s.l = L)) (h : LinT (later W p) s) :
    Rel.rUpon P (later W p) false (IsL1 W.heap.size L) (.ok (.value (.slice (some ⟨(later W p).heap.size, 0, none⟩) 1 1)) ((later W p).alloc (.cells #[lcV s] 44))) :=
  ⟨(Below.refl _ _).alloc (Nat.le_refl _) _, ⟨s, _, rfl, (below_later W p).size, Blk.new _ _ _, e, h.mono ((Below.refl _ _).alloc (Nat.le_refl _) _)⟩, fun h => by cases h⟩
theorem rU_l3 {P : Program} (W : World) (p : Later) (s1 s2 : Lc) (L1 L2 : Lin) (e1 : Hid (s1.l = L1)) (h1 : LinT (later W p) s1) (e2 : Hid (s2.l = L2)) (h2 : LinT (later W p) s2) :
    Rel.rUpon P (later W p) false (IsL3 W.heap.size L1 L2) (.ok (.value (.slice (some ⟨(later W p).heap.size, 0, none⟩) 3 3)) ((later W p).alloc (.cells #[.slice none 0 0, lcV s1, lcV s2] 44))) :=
  ⟨(Below.refl _ _).alloc (Nat.le_refl _) _, ⟨s1, s2, _, rfl, (below_later W p).size, Blk.new _ _ _, e1, h1.mono ((Below.refl _ _).alloc (Nat.le_refl _) _), e2, h2.mono ((Below.refl _ _).alloc (Nat.le_refl _) _)⟩, fun h => by cases h⟩

theorem Bd.isZero {S : St} {n : Int} {x : Lin} (h : Bd S n) : Bd (gIsZero S x).1 (n + 5) := (((h.hint.mul).row).row).up (by omega)
theorem Bd.bits {S : St} {n : Int} (h : Bd S n) (x : Lin) (k : Nat) : Bd (gBits S x k) (n + 2 * k + 1) := (bitsS_bd h x k).row
def mLess (p : Int) (n : Nat) : St × Lin := gLess (newS p 0 2) [(1, 1)] [(2, 1)] n
def mEq (p : Int) (n : Nat) : St × Lin := gEqual (mLess p n).1 [(1, 1)] [(2, 1)]
def mZero (p : Int) (n : Nat) : St × Lin := gIsZero (mEq p n).1 [(1, 1)]
def mBoth (p : Int) (n : Nat) : St := gMul (mZero p n).1 (mLess p n).2 (mZero p n).2
def mOne (p : Int) (n : Nat) : St × Lin := gOr (mBoth p n) (mLess p n).2 (mZero p n).2
def mPick (p : Int) (n : Nat) : St × Lin := gSelect (mOne p n).1 (mLess p n).2 [(1, 1)] [(2, 1)]
def mBits (p : Int) (n : Nat) : St := gBits (mPick p n).1 [(1, 1)] n

/-- What is known of the circuit of GadgetMeaning. -/
structure Mng (p X Y : Int) (n : Nat) : Prop where
  wf : Wf (mBits p n) [X, Y]
  sat : Sat (mBits p n) [X, Y]
  pp : (mLess p n).1.p = p ∧ (mEq p n).1.p = p ∧ (mZero p n).1.p = p ∧ (mBoth p n).p = p ∧ (mOne p n).1.p = p ∧ (mPick p n).1.p = p ∧ (mBits p n).p = p
  bd : Bd (mLess p n).1 20 ∧ Bd (mEq p n).1 25 ∧ Bd (mZero p n).1 30 ∧ Bd (mBoth p n) 40 ∧ Bd (mOne p n).1 50 ∧ Bd (mPick p n).1 60 ∧ Bd (mBits p n) 80
  lin : LinIn p 0 (mBits p n).vars (mLess p n).2 ∧ LinIn p 0 (mBits p n).vars (mEq p n).2 ∧ LinIn p 0 (mBits p n).vars (mZero p n).2 ∧ LinIn p 0 (mBits p n).vars (nv (mZero p n).1) ∧ LinIn p 0 (mBits p n).vars (mOne p n).2 ∧ LinIn p 0 (mBits p n).vars (gNot p (mEq p n).2) ∧ LinIn p 0 (mBits p n).vars (mPick p n).2
  val : lval p (fin (mBits p n) [X, Y]) (mLess p n).2 = (if X < Y then 1 else 0) ∧ lval p (fin (mBits p n) [X, Y]) (mEq p n).2 = (if X = Y then 1 else 0) ∧ lval p (fin (mBits p n) [X, Y]) (mZero p n).2 = (if X = 0 then 1 else 0) ∧ lval p (fin (mBits p n) [X, Y]) (nv (mZero p n).1) = (if X < Y ∧ X = 0 then 1 else 0) ∧ lval p (fin (mBits p n) [X, Y]) (mOne p n).2 = (if X < Y ∨ X = 0 then 1 else 0) ∧ lval p (fin (mBits p n) [X, Y]) (gNot p (mEq p n).2) = (if X = Y then 0 else 1) ∧ lval p (fin (mBits p n) [X, Y]) (mPick p n).2 = (if X < Y then X else Y)
  bits : ∀ i : Nat, i < n → LinIn p 0 (mBits p n).vars [((mPick p n).1.vars + i, 1)] ∧ lval p (fin (mBits p n) [X, Y]) [((mPick p n).1.vars + i, 1)] = X / 2 ^ i % 2

theorem one_mod {p : Int} (h : 17 ≤ p) : (1 : Int) % p = 1 := Int.emod_eq_of_lt (by omega) (by omega)
theorem mng {p X Y : Int} {n : Nat} (hv : vld p = true) (hX : 0 ≤ X ∧ X < 2 ^ n) (hY : 0 ≤ Y ∧ Y < 2 ^ n) (h2 : (2 : Int) ^ (n + 1) < p) (hn : n ≤ 6) : Mng p X Y n := by
  have hp := vld_pos hv
  have hpw : (2 : Int) ^ (n + 1) = 2 * 2 ^ n := by rw [Int.pow_succ, Int.mul_comm]
  have h0 := two_pos n
  have hI : ∀ x ∈ [X, Y], 0 ≤ x ∧ x < p := fun x hx => by
    simp only [List.mem_cons, List.not_mem_nil, or_false] at hx
    rcases hx with rfl | rfl <;> omega
  obtain ⟨wf, s0⟩ := new_wf (p := p) (pub := 0) (sec := 2) (I := [X, Y]) hv hI ⟨by omega, by omega, rfl⟩
  obtain ⟨l1, v1⟩ := new_in (p := p) (pub := 0) (sec := 2) (I := [X, Y]) hv hI ⟨by omega, by omega, rfl⟩ (i := 0) (by simp)
  obtain ⟨l2, v2⟩ := new_in (p := p) (pub := 0) (sec := 2) (I := [X, Y]) hv hI ⟨by omega, by omega, rfl⟩ (i := 1) (by simp)
  have l1 : LinIn (newS p 0 2).p 0 (newS p 0 2).vars [(1, 1)] := l1
  have l2 : LinIn (newS p 0 2).p 0 (newS p 0 2).vars [(2, 1)] := l2
  have v1 : V (newS p 0 2) [X, Y] [(1, 1)] = X := v1
  have v2 : V (newS p 0 2) [X, Y] [(2, 1)] = Y := v2
  have hT : (2 ^ n + X - Y) % p = 2 ^ n + X - Y := Int.emod_eq_of_lt (by omega) (by omega)
  -- Less
  obtain ⟨e1, t1, w1, m1⟩ := less_ext wf l1 l2 n (by omega) (show (2 : Int) ^ n < (newS p 0 2).p by show (2 : Int) ^ n < p; omega)
  rw [v1, v2] at t1 w1
  have q1 : (mLess p n).1.p = p := e1.p
  have t1 : Sat (mLess p n).1 [X, Y] := t1.2 ⟨s0, by
    show (2 ^ n + X - Y) % p % 2 ^ (n + 1) % p = (2 ^ n + X - Y) % p
    rw [hT, Int.emod_eq_of_lt (show 0 ≤ 2 ^ n + X - Y by omega) (by omega), hT]⟩
  have w1 : V (mLess p n).1 [X, Y] (mLess p n).2 = if X < Y then 1 else 0 := by
    refine Eq.trans w1 ?_
    show (1 - (2 ^ n + X - Y) % p / 2 ^ n % 2) % p = _
    rw [hT]
    by_cases h : X < Y
    · rw [if_pos h, Int.ediv_eq_zero_of_lt (by omega) (by omega)]
      exact one_mod hp.1
    · rw [if_neg h, show 2 ^ n + X - Y = (X - Y) + 2 ^ n * 1 by omega, Int.add_mul_ediv_left _ _ (by omega), Int.ediv_eq_zero_of_lt (by omega) (by omega)]
      rfl
  have m1 : LinIn (mLess p n).1.p 0 (mLess p n).1.vars (mLess p n).2 := by rw [q1]; exact m1
  have e1 : Ext (newS p 0 2) (mLess p n).1 [X, Y] := e1
  -- Equal
  obtain ⟨e2, t2, w2, m2⟩ := equal_ext e1.wf (e1.lin l1) (e1.lin l2)
  rw [e1.val _ l1, e1.val _ l2, v1, v2] at w2
  have e2 : Ext (mLess p n).1 (mEq p n).1 [X, Y] := e2
  have q2 : (mEq p n).1.p = p := by rw [e2.p, q1]
  have t2 : Sat (mEq p n).1 [X, Y] := t2.2 t1
  have w2 : V (mEq p n).1 [X, Y] (mEq p n).2 = if X = Y then 1 else 0 := w2
  have m2 : LinIn (mEq p n).1.p 0 (mEq p n).1.vars (mEq p n).2 := by rw [e2.p]; exact m2
  have e12 := e1.trans e2
  -- IsZero
  obtain ⟨e3, t3, w3, m3⟩ := isZero_ext e2.wf (e12.lin l1)
  rw [e12.val _ l1, v1] at w3
  have e3 : Ext (mEq p n).1 (mZero p n).1 [X, Y] := e3
  have q3 : (mZero p n).1.p = p := by rw [e3.p, q2]
  have t3 : Sat (mZero p n).1 [X, Y] := t3.2 t2
  have w3 : V (mZero p n).1 [X, Y] (mZero p n).2 = if X = 0 then 1 else 0 := w3
  have m3 : LinIn (mZero p n).1.p 0 (mZero p n).1.vars (mZero p n).2 := by rw [e3.p]; exact m3
  have e23 := e2.trans e3
  have m1' := e23.lin m1
  have w1' : V (mZero p n).1 [X, Y] (mLess p n).2 = if X < Y then 1 else 0 := by rw [e23.val _ m1, w1]
  -- And
  obtain ⟨e4, t4, w4, m4⟩ := mul_ext e3.wf m1' m3
  rw [w1', w3] at w4
  have e4 : Ext (mZero p n).1 (mBoth p n) [X, Y] := e4
  have q4 : (mBoth p n).p = p := by rw [e4.p, q3]
  have t4 : Sat (mBoth p n) [X, Y] := t4.2 t3
  have w4 : V (mBoth p n) [X, Y] (nv (mZero p n).1) = if X < Y ∧ X = 0 then 1 else 0 := by
    refine Eq.trans w4 ?_
    rw [q3]
    by_cases ha : X < Y
    · by_cases hb : X = 0
      · rw [if_pos ha, if_pos hb, if_pos ⟨ha, hb⟩]; exact one_mod hp.1
      · rw [if_pos ha, if_neg hb, if_neg (fun h => hb h.2)]; rfl
    · rw [if_neg ha, Int.zero_mul, if_neg (show ¬ (X < Y ∧ X = 0) from fun h => ha h.1)]; rfl
  have m4 : LinIn (mBoth p n).p 0 (mBoth p n).vars (nv (mZero p n).1) := by rw [e4.p]; exact m4
  -- Or
  obtain ⟨e5, t5, w5, m5⟩ := or_ext e4.wf (e4.lin m1') (e4.lin m3)
  rw [e4.val _ m1', e4.val _ m3, w1', w3] at w5
  have e5 : Ext (mBoth p n) (mOne p n).1 [X, Y] := e5
  have q5 : (mOne p n).1.p = p := by rw [e5.p, q4]
  have t5 : Sat (mOne p n).1 [X, Y] := t5.2 t4
  have w5 : V (mOne p n).1 [X, Y] (mOne p n).2 = if X < Y ∨ X = 0 then 1 else 0 := by
    refine Eq.trans w5 ?_
    rw [q4]
    by_cases ha : X < Y
    · by_cases hb : X = 0
      · rw [if_pos ha, if_pos hb, if_pos (Or.inl ha)]; exact one_mod hp.1
      · rw [if_pos ha, if_neg hb, if_pos (Or.inl ha)]; exact one_mod hp.1
    · by_cases hb : X = 0
      · rw [if_neg ha, if_pos hb, if_pos (Or.inr hb)]; exact one_mod hp.1
      · rw [if_neg ha, if_neg hb, if_neg (fun h => h.elim ha hb)]; rfl
  have m5 : LinIn (mOne p n).1.p 0 (mOne p n).1.vars (mOne p n).2 := by rw [e5.p]; exact m5
  have e45 := e4.trans e5
  have e15 := e12.trans (e3.trans e45)
  -- Not
  have e35 := e3.trans e45
  obtain ⟨m6, w6⟩ := not_val e5.wf (e35.lin m2)
  rw [e35.val _ m2, w2, q5] at w6
  rw [q5] at m6
  have w6 : V (mOne p n).1 [X, Y] (gNot p (mEq p n).2) = if X = Y then 0 else 1 := by
    refine Eq.trans w6 ?_
    by_cases ha : X = Y
    · rw [if_pos ha, if_pos ha]; rfl
    · rw [if_neg ha, if_neg ha]; exact one_mod hp.1
  -- Select
  obtain ⟨e7, t7, w7, m7⟩ := select_ext e5.wf (e45.lin m1') (e15.lin l1) (e15.lin l2)
  rw [e45.val _ m1', w1', e15.val _ l1, e15.val _ l2, v1, v2] at w7
  have e7 : Ext (mOne p n).1 (mPick p n).1 [X, Y] := e7
  have q7 : (mPick p n).1.p = p := by rw [e7.p, q5]
  have t7 : Sat (mPick p n).1 [X, Y] := t7.2 t5
  have w7 : V (mPick p n).1 [X, Y] (mPick p n).2 = if X < Y then X else Y := by
    refine Eq.trans w7 ?_
    rw [q5]
    by_cases ha : X < Y
    · rw [if_pos ha, if_pos ha, Int.one_mul, show Y + (X - Y) = X by omega, Int.emod_eq_of_lt hX.1 (by omega)]
    · rw [if_neg ha, if_neg ha, Int.zero_mul, Int.add_zero, Int.emod_eq_of_lt hY.1 (by omega)]
  have m7 : LinIn (mPick p n).1.p 0 (mPick p n).1.vars (mPick p n).2 := by rw [e7.p]; exact m7
  have e17 := e15.trans e7
  -- Bits
  obtain ⟨e8, t8, w8⟩ := gBits_ext e7.wf (e17.lin l1) n (by omega) (fun i hi => by
    have h3 : (2 : Int) ^ i ≤ 2 ^ n := by exact_mod_cast Nat.pow_le_pow_right (show 0 < 2 by decide) (show i ≤ n by omega)
    rw [q7]; omega)
  rw [e17.val _ l1, v1] at t8 w8
  have e8 : Ext (mPick p n).1 (mBits p n) [X, Y] := e8
  have q8 : (mBits p n).p = p := by rw [e8.p, q7]
  have t8 : Sat (mBits p n) [X, Y] := t8.2 ⟨t7, by rw [q7]; exact (bits_iff (by omega) hX.1).2 hX.2⟩
  have b1 : Bd (mLess p n).1 20 := (Bd.bits (show Bd (newS p 0 2) 3 from ⟨⟨(by decide : (0 : Int) ≤ 3), (by decide : (3 : Int) ≤ 3)⟩, (by decide : ((0 : Nat) : Int) ≤ 3), (by decide : ((0 : Nat) : Int) ≤ 3)⟩) _ (n + 1)).up (by omega)
  have b2 : Bd (mEq p n).1 25 := b1.isZero
  have b3 : Bd (mZero p n).1 30 := b2.isZero
  have b4 : Bd (mBoth p n) 40 := b3.mul.up (by omega)
  have b5 : Bd (mOne p n).1 50 := b4.mul.up (by omega)
  have b7 : Bd (mPick p n).1 60 := b5.mul.up (by omega)
  have b8 : Bd (mBits p n) 80 := (b7.bits _ n).up (by omega)
  have e78 := e7.trans e8
  have e58 := e45.trans e78
  have tr : ∀ {T : St} {x : Lin}, Ext T (mBits p n) [X, Y] → LinIn T.p 0 T.vars x → LinIn p 0 (mBits p n).vars x ∧ lval p (fin (mBits p n) [X, Y]) x = V T [X, Y] x := fun e l => by
    have h1 := e.lin l
    have h2 := e.val _ l
    unfold V at h2
    rw [q8] at h1 h2
    exact ⟨h1, h2⟩
  have r1 := tr (e23.trans e58) m1
  have r2 := tr (e3.trans e58) m2
  have r3 := tr e58 m3
  have r4 := tr (e5.trans e78) m4
  have r5 := tr e78 m5
  have r6 := tr e78 (show LinIn (mOne p n).1.p 0 (mOne p n).1.vars (gNot p (mEq p n).2) by rw [q5]; exact m6)
  have r7 := tr e8 m7
  refine ⟨e8.wf, t8, ⟨q1, q2, q3, q4, q5, q7, q8⟩, ⟨b1, b2, b3, b4, b5, b7, b8⟩, ⟨r1.1, r2.1, r3.1, r4.1, r5.1, r6.1, r7.1⟩, ⟨r1.2.trans w1, r2.2.trans w2, r3.2.trans w3, r4.2.trans w4, r5.2.trans w5, r6.2.trans w6, r7.2.trans w7⟩, fun i hi => ⟨LinIn.one (by omega) ⟨?_, ?_⟩, ?_⟩⟩
  · have := e7.wf.pos; omega
  · show (mPick p n).1.vars + (i : Int) < (bitsS (mPick p n).1 [(1, 1)] n).vars
    rw [bitsS_vars]; omega
  · have := w8 i hi
    unfold V at this
    rw [show (gBits (mPick p n).1 [(1, 1)] n).p = p from q8] at this
    exact this

end Go.Proofs.Ytlgjnidphldiiaa
