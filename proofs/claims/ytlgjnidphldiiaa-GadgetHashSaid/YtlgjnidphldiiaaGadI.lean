/- Gadgets: IsZero, Equal, And, Or of the program. -/
import Derived.Test.YtlgjnidphldiiaaGadH
namespace Go.Proofs.Ytlgjnidphldiiaa
open Go.RowKit

theorem gIsZero_bd {S : St} {n : Int} {x : Lin} (h : Bd S n) : Bd (gIsZero S x).1 (n + 5) := (h.hint.mul.row.row).up (by omega)

set_option maxRecDepth 10000 in
set_option maxHeartbeats 2000000 in
theorem IsZero20_any (base b : Nat) (S : St) (n : Int) (x : Lc) (w : World) (h : Bld w base b S) (hv : vld S.p = true) (hS : Bd S n) (hn : n ≤ 900000000) (hx : LinT w x) (lx : x.l.length ≤ 1000000) :
    Calls Try.prog 45 #[.pointer (some ⟨b, 0, none⟩), .slice x.ad x.l.length x.cap] w (RetB w base b (gIsZero S x.l).1 (gIsZero S x.l).2) := by
  have cH := hint20_any base b S 2 x ⟨none, 0, []⟩ 0 w h hv hx.ok (LinT.nil w).ok (by omega) (by simp) (by have := hS.h; omega) ⟨hS.v.1, by have := hS.v.2; omega⟩ (by decide) (by decide)
  simp only [List.length_nil] at cH
  have hS1 := hS.hint (k := 2) (bit := 0) (x := x.l) (y := [])
  go_enter Try.func45, Try.ntmps45
  go_wp2_with fail
  refine cH.mono ?_
  rintro e w1 ⟨v, rfl, ev, hv1, hB1, k1⟩
  have lv : v.l.length = 1 := by rw [ev.out]; rfl
  have cM := Mul20_any base b (gHint S 2 x.l [] 0) (n + 1) x v w1 hB1 hv hS1 (by omega) (k1.lin hx) hv1 lx (by omega)
  rw [show v.l = nv S from ev.out] at cM
  replace lv := hide lv
  rw [show (nv S).length = v.l.length by rw [lv.out]; rfl] at cM
  clear cH
  go_wp2_with fail
  refine cM.mono ?_
  rintro e w2 ⟨m, rfl, em, hm, hB2, k2⟩
  have lm : m.l.length = 1 := by rw [em.out]; rfl
  obtain ⟨cs, g, hc0⟩ := hB2.cell0
  have cN := Not20_any b cs _ S.p m w2 g hc0 hv hm.ok (by omega)
  rw [show m.l = nv (gHint S 2 x.l [] 0) from em.out] at cN
  replace lm := hide lm
  rw [show (nv (gHint S 2 x.l [] 0)).length = m.l.length by rw [lm.out]; rfl] at cN
  clear cM g hc0
  go_wp2_with fail
  refine cN.mono ?_
  rintro e w3 ⟨z, rfl, ez, hz, hb3⟩
  have lz : z.l.length ≤ 2 := by rw [ez.out]; exact addP_len S.p [(0, 1)] (nv (gHint S 2 x.l [] 0)) _
  have hS2 := hS1.mul (x := x.l) (y := nv S)
  have k12 := k1.trans k2
  have cR := row20_any base b (gMul (gHint S 2 x.l [] 0) x.l (nv S)) x z ⟨none, 0, []⟩ w3 (hB2.mono hb3) ((k12.lin hx).mono hb3).ok hz.ok (LinT.nil _).ok (by omega) (by omega) (by simp) (by have := hS2.r; omega)
  simp only [List.length_nil] at cR
  clear cN
  go_wp2_with fail
  refine cR.mono ?_
  rintro e w4 ⟨rfl, hB4, k4⟩
  have hS4 := hS2.row (x := x.l) (y := z.l) (z := [])
  have cR2 := row20_any base b (gRow (gMul (gHint S 2 x.l [] 0) x.l (nv S)) x.l z.l []) v z ⟨none, 0, []⟩ w4 hB4 (k4.lin ((k2.lin hv1).mono hb3)).ok (k4.lin hz).ok (LinT.nil _).ok (by have := lv.out; omega) (by omega) (by simp) (by have := hS4.r; omega)
  simp only [List.length_nil] at cR2
  rw [show ({ (gRow (gMul (gHint S 2 x.l [] 0) x.l (nv S)) x.l z.l []) with R := (gRow (gMul (gHint S 2 x.l [] 0) x.l (nv S)) x.l z.l []).R ++ [⟨v.l, z.l, []⟩] } : St) = (gIsZero S x.l).1 by rw [ev.out, ez.out]; rfl] at cR2
  clear cR hS4 hS2 hS1 hS lz
  go_wp2_with fail
  refine cR2.mono ?_
  rintro e w5 ⟨rfl, hB5, k5⟩
  clear cR2
  go_wp2
  go_ret
  exact ⟨z, rfl, ez, k5.lin (k4.lin hz), hB5, ((k12.trans (Kept.of_below hb3 hB2.lt)).trans k4).trans k5⟩

set_option maxHeartbeats 1000000 in
theorem Equal20_any (base b : Nat) (S : St) (n : Int) (x y : Lc) (w : World) (h : Bld w base b S) (hv : vld S.p = true) (hS : Bd S n) (hn : n ≤ 900000000) (hx : LinT w x) (hy : LinT w y) (lx : x.l.length ≤ 400000) (ly : y.l.length ≤ 400000) :
    Calls Try.prog 44 #[.pointer (some ⟨b, 0, none⟩), .slice x.ad x.l.length x.cap, .slice y.ad y.l.length y.cap] w (RetB w base b (gEqual S x.l y.l).1 (gEqual S x.l y.l).2) := by
  obtain ⟨cs, g, hc0⟩ := h.cell0
  have c0 := g.cell hc0
  have cS := gSub_any S.p x y w hx.ok hy.ok (fun _ => by omega)
  have hl := addP_len S.p x.l y.l (fneg S.p 1)
  go_enter Try.func44, Try.ntmps44
  go_wp2_with fail
  refine cS.mono ?_
  rintro e w1 ⟨s, rfl, es, hs, hb1⟩
  have cZ := IsZero20_any base b S n s w1 (h.mono hb1) hv hS hn hs (by rw [es.out]; omega)
  rw [show gIsZero S s.l = gEqual S x.l y.l by rw [es.out]; rfl] at cZ
  clear cS c0 hl
  go_wp2_with fail
  refine cZ.mono ?_
  rintro e w2 ⟨z, rfl, ez, hz, hB2, k2⟩
  clear cZ
  go_wp2
  go_ret
  exact ⟨z, rfl, ez, hz, hB2, (Kept.of_below hb1 h.lt).trans k2⟩

set_option maxHeartbeats 1000000 in
theorem And20_any (base b : Nat) (S : St) (n : Int) (x y : Lc) (w : World) (h : Bld w base b S) (hv : vld S.p = true) (hS : Bd S n) (hn : n ≤ 1000000000) (hx : LinT w x) (hy : LinT w y) (lx : x.l.length ≤ 1000000) (ly : y.l.length ≤ 1000000) :
    Calls Try.prog 46 #[.pointer (some ⟨b, 0, none⟩), .slice x.ad x.l.length x.cap, .slice y.ad y.l.length y.cap] w (RetB w base b (gMul S x.l y.l) (nv S)) := by
  have cM := Mul20_any base b S n x y w h hv hS hn hx hy lx ly
  go_enter Try.func46, Try.ntmps46
  go_wp2_with fail
  refine cM.mono ?_
  rintro e w2 ⟨m, rfl, em, hm, hB2, k2⟩
  go_wp2
  go_ret
  exact ⟨m, rfl, em, hm, hB2, k2⟩
end Go.Proofs.Ytlgjnidphldiiaa
