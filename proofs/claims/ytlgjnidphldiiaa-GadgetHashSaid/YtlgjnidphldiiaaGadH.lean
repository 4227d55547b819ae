/- Gadgets: Mul, Not, Assert, Boolean, IsZero, Equal, And, Or of the program. -/
import Derived.Test.YtlgjnidphldiiaaGadG
namespace Go.Proofs.Ytlgjnidphldiiaa
open Go.RowKit

/-- The gadgets, on values. -/
def addL (p : Int) (x y : Lin) : Lin := addP p x y 1
def subL (p : Int) (x y : Lin) : Lin := addP p x y (fneg p 1)
def gRow (S : St) (x y z : Lin) : St := { S with R := S.R ++ [⟨x, y, z⟩] }
def gHint (S : St) (k : Int) (x y : Lin) (bit : Int) : St := { S with vars := S.vars + 1, H := S.H ++ [⟨k, x, y, bit⟩] }
def nv (S : St) : Lin := [(S.vars, 1)]
def gMul (S : St) (x y : Lin) : St := gRow (gHint S 1 x y 0) x y (nv S)
def gNot (p : Int) (x : Lin) : Lin := subL p [(0, 1)] x
def gAssert (S : St) (x y : Lin) : St := gRow S (subL S.p x y) [(0, 1)] []
def gBool (S : St) (x : Lin) : St := gRow S x x x
def gIsZero (S : St) (x : Lin) : St × Lin :=
  let S1 := gHint S 2 x [] 0
  let S2 := gMul S1 x (nv S)
  let z := gNot S.p (nv S1)
  (gRow (gRow S2 x z []) (nv S) z [], z)
def gEqual (S : St) (x y : Lin) : St × Lin := gIsZero S (subL S.p x y)
def gOr (S : St) (x y : Lin) : St × Lin := (gMul S x y, subL S.p (addL S.p x y) (nv S))
def gSelect (S : St) (c x y : Lin) : St × Lin := (gMul S c (subL S.p x y), addL S.p y (nv S))

/-- Bounds of a circuit under way. -/
structure Bd (S : St) (n : Int) : Prop where
  v : 0 ≤ S.vars ∧ S.vars ≤ n
  r : (S.R.length : Int) ≤ n
  h : (S.H.length : Int) ≤ n
theorem Bd.up {S : St} {n m : Int} (h : Bd S n) (hm : n ≤ m) : Bd S m := ⟨⟨h.v.1, by have := h.v.2; omega⟩, by have := h.r; omega, by have := h.h; omega⟩
theorem Bd.row {S : St} {n : Int} {x y z : Lin} (h : Bd S n) : Bd (gRow S x y z) (n + 1) := ⟨⟨h.v.1, by have := h.v.2; show S.vars ≤ _; omega⟩, by have := h.r; show ((S.R ++ [_]).length : Int) ≤ _; simp; omega, by have := h.h; show (S.H.length : Int) ≤ _; omega⟩
theorem Bd.hint {S : St} {n k bit : Int} {x y : Lin} (h : Bd S n) : Bd (gHint S k x y bit) (n + 1) := ⟨⟨by have := h.v.1; show 0 ≤ S.vars + 1; omega, by have := h.v.2; show S.vars + 1 ≤ _; omega⟩, by have := h.r; show (S.R.length : Int) ≤ _; omega, by have := h.h; show ((S.H ++ [_]).length : Int) ≤ _; simp; omega⟩
theorem Bd.mul {S : St} {n : Int} {x y : Lin} (h : Bd S n) : Bd (gMul S x y) (n + 2) := (h.hint.row).up (by omega)
theorem addP_len (p : Int) (x y : Lin) (n : Int) : (addP p x y n).length ≤ x.length + y.length := by
  unfold addP
  split
  · exact comb_len _ _ _ _
  · simp

set_option maxHeartbeats 1000000 in
theorem Mul20_any (base b : Nat) (S : St) (n : Int) (x y : Lc) (w : World) (h : Bld w base b S) (hv : vld S.p = true) (hS : Bd S n) (hn : n ≤ 1000000000) (hx : LinT w x) (hy : LinT w y) (lx : x.l.length ≤ 1000000) (ly : y.l.length ≤ 1000000) :
    Calls Try.prog 67 #[.pointer (some ⟨b, 0, none⟩), .slice x.ad x.l.length x.cap, .slice y.ad y.l.length y.cap] w (RetB w base b (gMul S x.l y.l) (nv S)) := by
  have cH := hint20_any base b S 1 x y 0 w h hv hx.ok hy.ok (by omega) (by omega) (by have := hS.h; omega) ⟨hS.v.1, by have := hS.v.2; omega⟩ (by decide) (by decide)
  have hr := hS.hint (k := 1) (bit := 0) (x := x.l) (y := y.l) |>.r
  go_enter Try.func67, Try.ntmps67
  go_wp2_with fail
  refine cH.mono ?_
  rintro e w1 ⟨s, rfl, es, hs, hB1, k1⟩
  have ls : s.l.length = 1 := by rw [es.out]; rfl
  have cR := row20_any base b (gHint S 1 x.l y.l 0) x y s w1 hB1 (k1.lin hx).ok (k1.lin hy).ok hs.ok (by omega) (by omega) (by omega) (by omega)
  rw [show s.l = nv S from es.out] at cR
  replace ls := hide ls
  rw [show (nv S).length = s.l.length by rw [ls.out]; rfl] at cR
  clear cH hr
  go_wp2_with fail
  refine cR.mono ?_
  rintro e w2 ⟨rfl, hB2, k2⟩
  go_wp2
  go_ret
  exact ⟨s, rfl, es, k2.lin hs, hB2, k1.trans k2⟩

set_option maxHeartbeats 1000000 in
theorem Boolean20A_any (A : Nat → Prop) (base b : Nat) (S : St) (n : Int) (x : Lc) (w : World) (h : Bld w base b S A) (hA : ∀ q, A q → q < w.heap.size) (hS : Bd S n) (hn : n ≤ 1000000000) (hx : LinT w x) (lx : x.l.length ≤ 1000000) :
    Calls Try.prog 55 #[.pointer (some ⟨b, 0, none⟩), .slice x.ad x.l.length x.cap] w (fun e w' => RetV w base b (gBool S x.l) e w' A) := by
  have cR := row20A_any A base b S x x x w h hA hx.ok hx.ok hx.ok (by omega) (by omega) (by omega) (by have := hS.r; omega)
  go_enter Try.func55, Try.ntmps55
  go_wp2_with fail
  refine cR.mono ?_
  rintro e w2 ⟨rfl, hB2, k2⟩
  go_wp2
  exact bodyPost_end (v := .tuple #[]) (by simp [results, Try.results55, go_sem]) rfl ⟨rfl, hB2, k2⟩

theorem Boolean20_any (base b : Nat) (S : St) (n : Int) (x : Lc) (w : World) (h : Bld w base b S) (hS : Bd S n) (hn : n ≤ 1000000000) (hx : LinT w x) (lx : x.l.length ≤ 1000000) :
    Calls Try.prog 55 #[.pointer (some ⟨b, 0, none⟩), .slice x.ad x.l.length x.cap] w (RetV w base b (gBool S x.l)) :=
  Boolean20A_any (fun _ => False) base b S n x w h (fun _ hq => hq.elim) hS hn hx lx
theorem Bld.cell0 {w : World} {base b : Nat} {S : St} {A : Nat → Prop} (h : Bld w base b S A) : ∃ cs, Blk w b cs 104 ∧ cs[0]? = some (.int .u64 S.p) := by
  obtain ⟨vr, R, vh, H, h⟩ := h
  exact ⟨_, h.blk, rfl⟩
theorem Bld.lt {w : World} {base b : Nat} {S : St} {A : Nat → Prop} (h : Bld w base b S A) : base ≤ w.heap.size := by
  obtain ⟨vr, R, vh, H, h⟩ := h
  exact h.lt

set_option maxHeartbeats 1000000 in
theorem Assert20_any (base b : Nat) (S : St) (n : Int) (x y : Lc) (w : World) (h : Bld w base b S) (hv : vld S.p = true) (hS : Bd S n) (hn : n ≤ 1000000000) (hx : LinT w x) (hy : LinT w y) (lx : x.l.length ≤ 1000000) (ly : y.l.length ≤ 1000000) :
    Calls Try.prog 56 #[.pointer (some ⟨b, 0, none⟩), .slice x.ad x.l.length x.cap, .slice y.ad y.l.length y.cap] w (RetV w base b (gAssert S x.l y.l)) := by
  obtain ⟨cs, g, hc0⟩ := h.cell0
  have c0 := g.cell hc0
  have cS := gSub_any S.p x y w hx.ok hy.ok (fun _ => by omega)
  have hl := addP_len S.p x.l y.l (fneg S.p 1)
  go_enter Try.func56, Try.ntmps56
  go_wp2_with fail
  refine cS.mono ?_
  rintro e w1 ⟨s, rfl, es, hs, hb1⟩
  have cO := one_any b cs _ S.p w1 (g.mono hb1) hc0 hv
  clear c0 cS
  go_wp2_with fail
  refine cO.mono ?_
  rintro e w2 ⟨o, rfl, eo, ho, hb2⟩
  have lo : o.l.length = 1 := by rw [eo.out]; rfl
  have ls : s.l.length ≤ 2000000 := by rw [es.out]; omega
  have hb := below2 hb1 hb2
  have cR := row20_any base b S s o ⟨none, 0, []⟩ w2 (h.mono hb) (hs.mono hb2).ok ho.ok (LinT.nil _).ok (by omega) (by omega) (by simp) (by have := hS.r; omega)
  simp only [List.length_nil] at cR
  rw [show (⟨s.l, o.l, []⟩ : Row3) = ⟨subL S.p x.l y.l, [(0, 1)], []⟩ by rw [es.out, eo.out]; rfl] at cR
  clear cO hl
  replace lo := hide lo
  go_wp2_with fail
  refine cR.mono ?_
  rintro e w3 ⟨rfl, hB2, k2⟩
  go_wp2
  exact bodyPost_end (v := .tuple #[]) (by simp [results, Try.results56, go_sem]) rfl ⟨rfl, hB2, (Kept.of_below hb h.lt).trans k2⟩

set_option maxRecDepth 10000 in
set_option maxHeartbeats 1000000 in
theorem Not20_any (b : Nat) (cs : Array Value) (T : TypeId) (p : Int) (x : Lc) (w : World) (g : Blk w b cs T) (h0 : cs[0]? = some (.int .u64 p)) (hv : vld p = true) (hx : LcOk w x) (lx : x.l.length ≤ 1000000) :
    Calls Try.prog 48 #[.pointer (some ⟨b, 0, none⟩), .slice x.ad x.l.length x.cap] w (RetLn w (gNot p x.l)) := by
  have c0 := cell_later' (g.cell h0)
  have cO := fun P => one_any b cs _ p (later w P) (g.mono (below_later _ _)) h0 hv
  go_enter Try.func48, Try.ntmps48
  go_wp2_with fail
  refine Rel.wp_region_mix 8 [] [(6, IsLn [(0, 1)])] Try.mixed (by kernel_rfl) (by kernel_rfl) ?_ ?_
  rotate_left
  simp only [List.take_succ_cons, List.take_zero, List.drop_succ_cons, List.drop_zero, List.map_cons, List.map_nil]
  repeat (first | (refine Rel.wpA_b (by rfl) ?_) | (refine Rel.wpA_step (by rfl) fun K hK => ?_; go_simp; first | (refine hK _ ?_; clear hK K) | (apply Exists.intro; refine ⟨fun _ => ?_, hK _ ?_⟩; (first | fail); clear hK K)))
  refine Rel.wpA_nil ?_
  rotate_left
  · intro z hz v u u' h1 h2
    simp only [List.mem_cons, List.not_mem_nil, or_false] at hz
    subst hz
    exact IsLn.mono h1 h2
  refine Rel.wpB_step _ rfl rfl (fun p' hc => ?_) (fun v6 => ?_)
  · refine rU_of' (fr := false) (r := .ok (.enter 99 #[.pointer (some ⟨b, 0, none⟩)]) (later w p')) (by kernel_rfl) (by kernel_rfl) ?_
    exact rU_ln (cO p')
  refine Rel.wpB_nil ?_
  intro p' hctx hfr
  simp only [List.nil_append, List.mem_cons, List.not_mem_nil, or_false, forall_eq] at hctx
  obtain ⟨o, rfl, eo, ho⟩ := hctx
  have hb := below_later w p'
  clear hfr c0 cO
  generalize later w p' = w2 at *
  have lo : o.l.length = 1 := by rw [eo.out]; rfl
  have cS := gSub_any p o x w2 ho.ok (hx.mono hb) (fun _ => by omega)
  rw [show addP p o.l x.l (fneg p 1) = gNot p x.l by rw [eo.out]; rfl] at cS
  replace lo := hide lo
  go_wp2_with fail
  refine cS.mono ?_
  rintro e w3 ⟨s, rfl, es, hs, hb3⟩
  go_wp2
  go_ret
  exact ⟨s, rfl, es, hs, below2 hb hb3⟩
end Go.Proofs.Ytlgjnidphldiiaa
