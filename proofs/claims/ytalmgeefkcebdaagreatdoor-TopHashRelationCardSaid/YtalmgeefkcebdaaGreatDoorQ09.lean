/- Gadgets: combine of the program: x + n y. -/
import Derived.Test.YtalmgeefkcebdaaGreatDoorQ08
import Derived.BigRegion
namespace Go.Proofs.YtalmgeefkcebdaaGreatDoor
open Go.RowKit

set_option maxHeartbeats 1000000 in
theorem Clip_any (s : Lc) (w : World) (hc : s.l.length ≤ s.cap) (hl : s.l.length < 1000000000) :
    Calls Tryz.prog 204 #[.slice s.ad s.l.length s.cap] w fun e w' => e = .returned (.slice s.ad s.l.length s.l.length) ∧ w' = w := by
  obtain ⟨ad, c, l⟩ := s
  simp only at hc hl ⊢
  generalize l.length = n at *
  go_enter Tryz.func204, Tryz.ntmps204
  go_wp2
  go_ret
  exact ⟨rfl, rfl⟩

set_option maxHeartbeats 1000000 in
theorem combine_no (p n : Int) (x y : Lc) (w : World) (hv : vld p = false) :
    Calls Tryz.prog 164 #[.int .u64 p, .slice x.ad x.l.length x.cap, .slice y.ad y.l.length y.cap, .int .u64 n] w (RetLn w []) := by
  have cV := fun W => valid_any p W
  rw [hv] at cV
  clear hv
  go_enter Tryz.func164, Tryz.ntmps164
  go_wp2_with fail
  refine (cV _).mono ?_
  rintro e w1 ⟨rfl, hb⟩
  go_wp2
  go_ret
  exact RetLn.nil w (((Below.refl _ _).alloc (Nat.le_refl _) _).trans (hb.mono (by simp)))

def lenOf : Value → Nat
  | .slice _ n _ => n
  | _ => 0
/-- The loop of combine. -/
structure CoSt (w wr : World) (bF : Nat) (p : Int) (ax : Option Addr) (X : Lin) (cx : Nat) (ay : Option Addr) (Y : Lin) (cy : Nat) (v : Value) (S : Lin) (B : Nat) : Prop where
  b : Below w.heap.size w wr
  f : Blk wr bF #[.int .u64 p] 72
  x : LinS w ax X
  xw : LinW X
  xc : X.length ≤ cx
  xm : cx ≤ maxLen
  y : LinS w ay Y
  yw : LinW Y
  yc : Y.length ≤ cy
  ym : cy ≤ maxLen
  o : OwnG tmL wr w.heap.size 131 v S
  sw : LinW S
  len : S.length + X.length + Y.length ≤ B
theorem CoSt.mono {w wr w2 : World} {bF : Nat} {p : Int} {ax ay : Option Addr} {X Y S : Lin} {cx cy B : Nat} {v : Value} (h : CoSt w wr bF p ax X cx ay Y cy v S B) (hb : Below wr.heap.size wr w2) : CoSt w w2 bF p ax X cx ay Y cy v S B :=
  ⟨below2 h.b hb, h.f.mono hb, h.x, h.xw, h.xc, h.xm, h.y, h.yw, h.yc, h.ym, h.o.mono hb, h.sw, h.len⟩
theorem CoSt.step {w wr : World} {bF : Nat} {p : Int} {ax ay ax' ay' : Option Addr} {X Y S X' Y' : Lin} {cx cy cx' cy' B : Nat} {v : Value} (h : CoSt w wr bF p ax X cx ay Y cy v S B) (h1 : LinS w ax' X') (h2 : LinW X') (h3 : X'.length ≤ cx') (h4 : cx' ≤ maxLen)
    (k1 : LinS w ay' Y') (k2 : LinW Y') (k3 : Y'.length ≤ cy') (k4 : cy' ≤ maxLen) (hl : S.length + X'.length + Y'.length ≤ B) : CoSt w wr bF p ax' X' cx' ay' Y' cy' v S B :=
  ⟨h.b, h.f, h1, h2, h3, h4, k1, k2, k3, k4, h.o, h.sw, hl⟩
theorem CoSt.app {w wr w2 : World} {bF : Nat} {p : Int} {ax ay : Option Addr} {X Y S : Lin} {cx cy B : Nat} {v v' : Value} {t : Int × Int} (h : CoSt w wr bF p ax X cx ay Y cy v S B) (ho : OwnG tmL w2 w.heap.size 131 v' (S ++ [t])) (hg : Grew wr w2 v v') (hw : (Lit.int .i64 t.1).wf = true ∧ (Lit.int .u64 t.2).wf = true) (hl : S.length + X.length + Y.length + 1 ≤ B) : CoSt w w2 bF p ax X cx ay Y cy v' (S ++ [t]) B :=
  ⟨hg.belowG h.b h.o (Nat.le_refl _) h.b.size, hg.blk h.f (h.o.neq h.f (by decide)), h.x, h.xw, h.xc, h.xm, h.y, h.yw, h.yc, h.ym, ho, fun q hq => by
    rcases List.mem_append.1 hq with h1 | h1
    · exact h.sw q h1
    · rw [List.mem_singleton] at h1; subst h1; exact hw, by simp; omega⟩
theorem LinS.tail {w : World} {b o c : Nat} {t : Int × Int} {X : Lin} (h : LinS w (some ⟨b, o, none⟩) (t :: X)) (hc : X.length + 1 ≤ c) : LinS w (if c = 1 then some ⟨b, o, none⟩ else some ⟨b, o + 2, none⟩) X := fun h0 => by
  obtain ⟨b', o', e, hl, hh⟩ := h (by simp)
  cases e
  rw [if_neg (by omega)]
  refine ⟨b, o + 2, rfl, hl, fun i hi => ?_⟩
  have := hh (i + 1) (by simp; omega)
  simp only [List.getD_cons_succ] at this
  rw [show o + 2 + i * 2 = o + (i + 1) * 2 by omega]
  exact this
theorem LinW.tail {t : Int × Int} {X : Lin} (h : LinW (t :: X)) : LinW X := fun u hu => h u (List.mem_cons_of_mem _ hu)

set_option maxRecDepth 10000 in
set_option maxHeartbeats 8000000 in
theorem combine_yes (p n : Int) (x y : Lc) (w : World) (hv : vld p = true) (hx : LcOk w x) (hy : LcOk w y) (hl : x.l.length + y.l.length ≤ 100000000) (hn : 0 ≤ n ∧ n < 18446744073709551616) :
    Calls Tryz.prog 164 #[.int .u64 p, .slice x.ad x.l.length x.cap, .slice y.ad y.l.length y.cap, .int .u64 n] w (RetLn w (comb p n x.l y.l)) := by
  have cV := fun W => valid_any p W
  rw [hv] at cV
  obtain ⟨B, hB⟩ : ∃ B, B = x.l.length + y.l.length := ⟨_, rfl⟩
  have hBl : B ≤ 100000000 := by omega
  have e1 : ((x.l.length : Int) + y.l.length) = (B : Int) := by omega
  have hmk := fun W => run_mkG tmL (P := Tryz.prog) (t := 95) (e := 131) Tryz.underlying95 Tryz.infoTm (by decide) (N := 0) (C := (B : Int)) 0 B rfl rfl (by omega) (by omega) W
  obtain ⟨C, hC⟩ : ∃ C, C = comb p n x.l y.l := ⟨_, rfl⟩
  rw [← hC]
  replace hC := hide hC
  replace hB := hide hB
  go_enter Tryz.func164, Tryz.ntmps164
  go_wp2_with fail
  refine (cV _).mono ?_
  rintro e w1 ⟨rfl, hb⟩
  go_wp2_with fail
  generalize hF : w.heap.size = bF at *
  have gF : Blk w1 bF #[.int .u64 p] 72 := (Blk.newAt hF.symm).mono hb
  have hB1 : Below w.heap.size w w1 := ((Below.refl _ _).alloc (Nat.le_refl _) _).trans (hb.mono (by simp))
  have own0 : OwnG tmL (w1.alloc (.cells (madeCells #[.int .i64 0, .int .u64 0] (B * tmL.m)) 131)) w.heap.size 131 (.slice (some ⟨w1.heap.size, 0, none⟩) 0 B) [] := OwnG.made0 hB1.size (by simp only [maxLen]; omega)
  have hbA := (Below.refl w1.heap.size w1).alloc (Nat.le_refl _) (.cells (madeCells #[.int .i64 0, .int .u64 0] (B * tmL.m)) 131)
  have S0 : CoSt w (w1.alloc (.cells (madeCells #[.int .i64 0, .int .u64 0] (B * tmL.m)) 131)) bF p x.ad x.l x.cap y.ad y.l y.cap (.slice (some ⟨w1.heap.size, 0, none⟩) 0 B) [] B :=
    ⟨below2 hB1 hbA, gF.mono hbA, hx.sl, hx.wl, hx.le, hx.mx, hy.sl, hy.wl, hy.le, hy.mx, own0, (fun t ht => by cases ht), by rw [hB.out]; simp⟩
  have hC0 : Hid ([] ++ comb p n x.l y.l = C) := hide (by rw [hC.out]; rfl)
  clear own0 hbA hB1 gF hb hmk e1 cV
  go_loopw [1, 2, 10] (fun t1 t2 t10 wr => ∃ X Y S ax cx ay cy, t1 = .slice ax X.length cx ∧ t2 = .slice ay Y.length cy ∧ Hid (S ++ comb p n X Y = C) ∧ CoSt w wr bF p ax X cx ay Y cy t10 S B) (fun t1 t2 _ _ => lenOf t1 + lenOf t2)
  case atStart => exact ⟨x.l, y.l, [], x.ad, x.cap, y.ad, y.cap, rfl, rfl, hC0, S0⟩
  case round =>
    clear S0 hC0 hC hB hl hx hy
    obtain ⟨X, Y, S, ax, cx, ay, cy, rfl, rfl, hS, St⟩ := hrel
    have hlen := St.len
    rcases X with _ | ⟨⟨v, c⟩, X⟩ <;> rcases Y with _ | ⟨⟨u, d⟩, Y⟩
    · have hS2 := hS.out
      rw [comb, List.append_nil] at hS2
      obtain ⟨s10, e10, l10, h10⟩ := St.o.lin St.sw
      have hls : s10.l.length ≤ B := by rw [l10]; omega
      subst e10
      have hb := St.b
      clear hS hlen St
      replace l10 := hide l10
      replace hS2 := hide hS2
      go_wp2_with fail
      refine (Clip_any s10 wr h10.ok.le (by omega)).mono ?_
      rintro e w2 ⟨rfl, rfl⟩
      go_wp2
      go_ret
      exact ⟨⟨s10.ad, s10.l.length, s10.l⟩, rfl, hide (by rw [← hS2.out]; exact l10.out), ⟨⟨h10.ok.sl, h10.ok.wl, Nat.le_refl _, by simp only [maxLen]; omega⟩, h10.blk⟩, hb⟩
    · obtain ⟨bby, oy, e, _, hcy⟩ := (St.y.mono St.b) (by simp)
      obtain ⟨hy0, hy1⟩ := hcy 0 (by simp)
      have ky := St.yc
      have wy := St.yw.get (k := 0) (by simp)
      subst e
      simp only [Nat.zero_mul, Nat.add_zero, List.getD_cons_zero] at hy0 hy1 wy
      simp only [List.length_cons] at ky
      have ny : ((Y.length : Int) + 1 == 0) = false := by simp; omega
      clear hcy
      simp only [List.length_cons, List.length_nil] at hlen
      have hk : Hid (comb p n [] ((u, d) :: Y) = keepT (u, fmul p n d) ++ comb p n [] Y) := hide (by rw [comb])
      have cM := fun W => Mul_any p n d W hn.1 hn.2 wy.2.1 wy.2.2
      have hmb := fmul_bd p n d
      generalize fmul p n d = m at *
      go_wp2_with fail
      go_region
      go_wp2_with fail
      go_region
      go_wp2_with fail
      refine name_world fun W0 hN => ?_
      have hbW : Below wr.heap.size wr W0 := by rw [hN]; exact ((Below.refl _ _).alloc (Nat.le_refl _) _).drew.drew
      have gT0 : Blk W0 wr.heap.size #[.int .i64 0, .int .u64 0] 131 := by rw [hN]; exact (Blk.newAt rfl).mono (Below.refl _ _).drew.drew
      clear hN
      have f0 := cell_later' ((St.f.mono hbW).cell (j := 0) (v := .int .u64 p) rfl)
      replace hy0 := cell_later' (cell_below hbW hy0)
      replace hy1 := cell_later' (cell_below hbW hy1)
      refine Rel.wp_region_later_tail 12 Tryz.mixed (by kernel_rfl) ?_
      simp only [List.take_succ_cons, List.take_zero, List.drop_succ_cons, List.drop_zero]
      repeat (first | go_big_quiet_step (first | (go_at_call 61; exact Calls.later_of (cM _))) | quiet_step (first | (go_at_call 61; exact Calls.later_of (cM _))))
      refine wpQuiet_nil ?_
      intro W1 hb1
      replace hb1 := below_of_later hb1
      clear f0 cM hy0 hy1
      replace hbW := below2 hbW hb1
      replace gT0 := gT0.mono hb1
      clear hb1
      have s0 := gT0.cell (j := 0) (v := .int .i64 0) rfl
      have s1 := gT0.cell (j := 1) (v := .int .u64 0) rfl
      have sf := gT0.free
      go_upto_region 13 with (fail)
      refine name_world fun W hN => ?_
      have gT : Blk W wr.heap.size #[.int .i64 u, .int .u64 m] 131 := by rw [hN]; exact (gT0.set 0 (.int .i64 u)).set 1 (.int .u64 m)
      replace hbW : Below wr.heap.size wr W := by rw [hN]; exact (hbW.setCell (p := ⟨wr.heap.size, 0, none⟩) (Nat.le_refl _) _).setCell (p := ⟨wr.heap.size, 1, none⟩) (Nat.le_refl _) _
      clear hN s0 s1 sf gT0
      have hy' := St.y.tail ky
      have St2 : CoSt w W bF p ax [] cx (if cy = 1 then some (⟨bby, oy, none⟩ : Addr) else some ⟨bby, oy + 2, none⟩) Y (cy - 1) u10 S B := (St.mono hbW).step St.x St.xw St.xc St.xm hy' St.yw.tail (by omega) (by have := St.ym; omega) (by simp; omega)
      have hl1 : S.length + ([] : Lin).length + Y.length + 1 ≤ B := by simp; omega
      have hw1 : (Lit.int .i64 u).wf = true ∧ (Lit.int .u64 m).wf = true := ⟨(St.yw _ (List.mem_cons_self ..)).1, wfU hmb⟩
      clear St hbW hy' wy hmb ny
      by_cases hcy : cy = 1
      case' pos => rw [if_pos hcy] at St2; subst hcy; replace ky := hide ky
      case' neg => rw [if_neg hcy] at St2
      all_goals
        by_cases h0 : m = 0
        · have hz : (m != 0) = false := by simpa using h0
          have hS2 : Hid (S ++ comb p n [] Y = C) := hide (by
            have := hS.out
            rw [hk.out, show keepT (u, m) = [] by unfold keepT; rw [if_pos h0]] at this
            exact this)
          replace h0 := hide h0
          clear hS hk
          have t1 := gT.cell (j := 1) (v := .int .u64 m) rfl
          go_wp2
          go_roundw
          case rel => exact ⟨[], Y, S, ax, cx, _, _, rfl, rfl, hS2, St2⟩
          case measure => simp [lenOf]; try omega
        · have hz : (m != 0) = true := by simpa using h0
          have hS2 : Hid (S ++ [(u, m)] ++ comb p n [] Y = C) := hide (by
            have := hS.out
            rw [hk.out, show keepT (u, m) = [(u, m)] by unfold keepT; rw [if_neg h0], ← List.append_assoc] at this
            exact this)
          replace h0 := hide h0
          clear hS hk
          have t0 := gT.cell (j := 0) (v := .int .i64 u) rfl
          have t1 := gT.cell (j := 1) (v := .int .u64 m) rfl
          have hSl : S.length ≤ 100000000 := by have := St2.len; omega
          go_wp2_with (at_builtin; refine wpList_appG _ tmL S [(u, m)] rfl _ _ 95 rfl w.heap.size 131 _ _ Tryz.underlying95 Tryz.infoTm rfl (by decide) _ 1 1 _ rfl rfl rfl (St2.o.alloc _) (SlG.one (Blk.newAt rfl) rfl) (by simp; omega) (by have := St2.b.size; simp; omega) ?_; intro v' w' hown hg; refine Hold.mk ?_)
          refine Hold.go ?_
          have St3 := (St2.mono ((Below.refl _ _).alloc (Nat.le_refl _) _)).app hown hg hw1 hl1
          clear hown hg St2 gT t0 t1
          go_wp2
          go_roundw
          case rel => exact ⟨[], Y, S ++ [(u, m)], ax, cx, _, _, rfl, rfl, hS2, St3⟩
          case measure => simp [lenOf]; try omega
    · obtain ⟨bbx, ox, e, _, hcx⟩ := (St.x.mono St.b) (by simp)
      obtain ⟨hx0, hx1⟩ := hcx 0 (by simp)
      have kx := St.xc
      have wx := St.xw.get (k := 0) (by simp)
      subst e
      simp only [Nat.zero_mul, Nat.add_zero, List.getD_cons_zero] at hx0 hx1 wx
      simp only [List.length_cons] at kx
      have nx : ((X.length : Int) + 1 == 0) = false := by simp; omega
      clear hcx
      simp only [List.length_cons, List.length_nil] at hlen
      go_wp2_with fail
      go_region
      go_wp2_with fail
      go_region
      have hbW : Below wr.heap.size wr (wr.alloc (.cells #[.int .i64 v, .int .u64 c] 131)).drew.drew := ((Below.refl _ _).alloc (Nat.le_refl _) _).drew.drew
      have gT : Blk (wr.alloc (.cells #[.int .i64 v, .int .u64 c] 131)).drew.drew wr.heap.size #[.int .i64 v, .int .u64 c] 131 := (Blk.newAt (b := wr.heap.size) rfl).mono (Below.refl _ _).drew.drew
      generalize (wr.alloc (.cells #[.int .i64 v, .int .u64 c] 131)).drew.drew = W at *
      have hx' := St.x.tail kx
      generalize (if cx = 1 then some (⟨bbx, ox, none⟩ : Addr) else some ⟨bbx, ox + 2, none⟩) = A1 at *
      have St2 : CoSt w W bF p A1 X (cx - 1) ay [] cy u10 S B := (St.mono hbW).step hx' St.xw.tail (by omega) (by have := St.xm; omega) St.y St.yw St.yc St.ym (by simp; omega)
      have hk : Hid (comb p n ((v, c) :: X) [] = keepT (v, c) ++ comb p n X []) := hide (by rw [comb])
      have hl1 : S.length + X.length + ([] : Lin).length + 1 ≤ B := by simp; omega
      have hw1 : (Lit.int .i64 v).wf = true ∧ (Lit.int .u64 c).wf = true := St.xw _ (List.mem_cons_self ..)
      clear St hbW hx' hx0 hx1 kx wx nx
      by_cases h0 : c = 0
      · have hz : (c != 0) = false := by simpa using h0
        have hS2 : Hid (S ++ comb p n X [] = C) := hide (by
          have := hS.out
          rw [hk.out, show keepT (v, c) = [] by unfold keepT; rw [if_pos h0]] at this
          exact this)
        replace h0 := hide h0
        clear hS hk
        have t1 := gT.cell (j := 1) (v := .int .u64 c) rfl
        go_wp2
        go_roundw
        case rel => exact ⟨X, [], S, A1, cx - 1, ay, cy, rfl, rfl, hS2, St2⟩
        case measure => simp [lenOf]; try omega
      · have hz : (c != 0) = true := by simpa using h0
        have hS2 : Hid (S ++ [(v, c)] ++ comb p n X [] = C) := hide (by
          have := hS.out
          rw [hk.out, show keepT (v, c) = [(v, c)] by unfold keepT; rw [if_neg h0], ← List.append_assoc] at this
          exact this)
        replace h0 := hide h0
        clear hS hk
        have t0 := gT.cell (j := 0) (v := .int .i64 v) rfl
        have t1 := gT.cell (j := 1) (v := .int .u64 c) rfl
        have hSl : S.length ≤ 100000000 := by have := St2.len; omega
        go_wp2_with (at_builtin; refine wpList_appG _ tmL S [(v, c)] rfl _ _ 95 rfl w.heap.size 131 _ _ Tryz.underlying95 Tryz.infoTm rfl (by decide) _ 1 1 _ rfl rfl rfl (St2.o.alloc _) (SlG.one (Blk.newAt rfl) rfl) (by simp; omega) (by have := St2.b.size; simp; omega) ?_; intro v' w' hown hg; refine Hold.mk ?_)
        refine Hold.go ?_
        have St3 := (St2.mono ((Below.refl _ _).alloc (Nat.le_refl _) _)).app hown hg hw1 hl1
        clear hown hg St2 gT t0 t1
        go_wp2
        go_roundw
        case rel => exact ⟨X, [], S ++ [(v, c)], A1, cx - 1, ay, cy, rfl, rfl, hS2, St3⟩
        case measure => simp [lenOf]; try omega
    · obtain ⟨bbx, ox, e, _, hcx⟩ := (St.x.mono St.b) (by simp)
      obtain ⟨hx0, hx1⟩ := hcx 0 (by simp)
      have kx := St.xc
      have wx := St.xw.get (k := 0) (by simp)
      subst e
      simp only [Nat.zero_mul, Nat.add_zero, List.getD_cons_zero] at hx0 hx1 wx
      simp only [List.length_cons] at kx
      have nx : ((X.length : Int) + 1 == 0) = false := by simp; omega
      clear hcx
      obtain ⟨bby, oy, e, _, hcy⟩ := (St.y.mono St.b) (by simp)
      obtain ⟨hy0, hy1⟩ := hcy 0 (by simp)
      have ky := St.yc
      have wy := St.yw.get (k := 0) (by simp)
      subst e
      simp only [Nat.zero_mul, Nat.add_zero, List.getD_cons_zero] at hy0 hy1 wy
      simp only [List.length_cons] at ky
      have ny : ((Y.length : Int) + 1 == 0) = false := by simp; omega
      clear hcy
      simp only [List.length_cons] at hlen
      by_cases hvu : v < u
      · go_wp2_with fail
        go_region
        go_wp2_with fail
        go_region
        have hbW : Below wr.heap.size wr (wr.alloc (.cells #[.int .i64 v, .int .u64 c] 131)).drew.drew := ((Below.refl _ _).alloc (Nat.le_refl _) _).drew.drew
        have gT : Blk (wr.alloc (.cells #[.int .i64 v, .int .u64 c] 131)).drew.drew wr.heap.size #[.int .i64 v, .int .u64 c] 131 := (Blk.newAt (b := wr.heap.size) rfl).mono (Below.refl _ _).drew.drew
        generalize (wr.alloc (.cells #[.int .i64 v, .int .u64 c] 131)).drew.drew = W at *
        have hx' := St.x.tail kx
        generalize (if cx = 1 then some (⟨bbx, ox, none⟩ : Addr) else some ⟨bbx, ox + 2, none⟩) = A1 at *
        have St2 : CoSt w W bF p A1 X (cx - 1) (some ⟨bby, oy, none⟩) ((u, d) :: Y) cy u10 S B := (St.mono hbW).step hx' St.xw.tail (by omega) (by have := St.xm; omega) St.y St.yw St.yc St.ym (by simp; omega)
        have hk : Hid (comb p n ((v, c) :: X) ((u, d) :: Y) = keepT (v, c) ++ comb p n X ((u, d) :: Y)) := hide (by rw [comb, if_pos hvu])
        have hl1 : S.length + X.length + (((u, d) :: Y) : Lin).length + 1 ≤ B := by simp; omega
        have hw1 : (Lit.int .i64 v).wf = true ∧ (Lit.int .u64 c).wf = true := St.xw _ (List.mem_cons_self ..)
        clear St hbW hx' hx0 hx1 kx wx nx hy0 hy1 ky wy ny
        by_cases h0 : c = 0
        · have hz : (c != 0) = false := by simpa using h0
          have hS2 : Hid (S ++ comb p n X ((u, d) :: Y) = C) := hide (by
            have := hS.out
            rw [hk.out, show keepT (v, c) = [] by unfold keepT; rw [if_pos h0]] at this
            exact this)
          replace h0 := hide h0
          clear hS hk
          have t1 := gT.cell (j := 1) (v := .int .u64 c) rfl
          go_wp2
          go_roundw
          case rel => exact ⟨X, ((u, d) :: Y), S, A1, cx - 1, (some ⟨bby, oy, none⟩), cy, rfl, rfl, hS2, St2⟩
          case measure => simp [lenOf]; try omega
        · have hz : (c != 0) = true := by simpa using h0
          have hS2 : Hid (S ++ [(v, c)] ++ comb p n X ((u, d) :: Y) = C) := hide (by
            have := hS.out
            rw [hk.out, show keepT (v, c) = [(v, c)] by unfold keepT; rw [if_neg h0], ← List.append_assoc] at this
            exact this)
          replace h0 := hide h0
          clear hS hk
          have t0 := gT.cell (j := 0) (v := .int .i64 v) rfl
          have t1 := gT.cell (j := 1) (v := .int .u64 c) rfl
          have hSl : S.length ≤ 100000000 := by have := St2.len; omega
          go_wp2_with (at_builtin; refine wpList_appG _ tmL S [(v, c)] rfl _ _ 95 rfl w.heap.size 131 _ _ Tryz.underlying95 Tryz.infoTm rfl (by decide) _ 1 1 _ rfl rfl rfl (St2.o.alloc _) (SlG.one (Blk.newAt rfl) rfl) (by simp; omega) (by have := St2.b.size; simp; omega) ?_; intro v' w' hown hg; refine Hold.mk ?_)
          refine Hold.go ?_
          have St3 := (St2.mono ((Below.refl _ _).alloc (Nat.le_refl _) _)).app hown hg hw1 hl1
          clear hown hg St2 gT t0 t1
          go_wp2
          go_roundw
          case rel => exact ⟨X, ((u, d) :: Y), S ++ [(v, c)], A1, cx - 1, (some ⟨bby, oy, none⟩), cy, rfl, rfl, hS2, St3⟩
          case measure => simp [lenOf]; try omega
      · by_cases huv : u < v
        · have hvu2 : u ≤ v := by omega
          have hk : Hid (comb p n ((v, c) :: X) ((u, d) :: Y) = keepT (u, fmul p n d) ++ comb p n ((v, c) :: X) Y) := hide (by rw [comb, if_neg hvu, if_pos huv])
          have cM := fun W => Mul_any p n d W hn.1 hn.2 wy.2.1 wy.2.2
          have hmb := fmul_bd p n d
          generalize fmul p n d = m at *
          go_wp2_with fail
          go_region
          go_wp2_with fail
          go_region
          go_wp2_with fail
          refine name_world fun W0 hN => ?_
          have hbW : Below wr.heap.size wr W0 := by rw [hN]; exact ((Below.refl _ _).alloc (Nat.le_refl _) _).drew.drew
          have gT0 : Blk W0 wr.heap.size #[.int .i64 0, .int .u64 0] 131 := by rw [hN]; exact (Blk.newAt rfl).mono (Below.refl _ _).drew.drew
          clear hN
          have f0 := cell_later' ((St.f.mono hbW).cell (j := 0) (v := .int .u64 p) rfl)
          replace hy0 := cell_later' (cell_below hbW hy0)
          replace hy1 := cell_later' (cell_below hbW hy1)
          refine Rel.wp_region_later_tail 12 Tryz.mixed (by kernel_rfl) ?_
          simp only [List.take_succ_cons, List.take_zero, List.drop_succ_cons, List.drop_zero]
          repeat (first | go_big_quiet_step (first | (go_at_call 61; exact Calls.later_of (cM _))) | quiet_step (first | (go_at_call 61; exact Calls.later_of (cM _))))
          refine wpQuiet_nil ?_
          intro W1 hb1
          replace hb1 := below_of_later hb1
          clear f0 cM hy0 hy1
          replace hbW := below2 hbW hb1
          replace gT0 := gT0.mono hb1
          clear hb1
          have s0 := gT0.cell (j := 0) (v := .int .i64 0) rfl
          have s1 := gT0.cell (j := 1) (v := .int .u64 0) rfl
          have sf := gT0.free
          go_upto_region 13 with (fail)
          refine name_world fun W hN => ?_
          have gT : Blk W wr.heap.size #[.int .i64 u, .int .u64 m] 131 := by rw [hN]; exact (gT0.set 0 (.int .i64 u)).set 1 (.int .u64 m)
          replace hbW : Below wr.heap.size wr W := by rw [hN]; exact (hbW.setCell (p := ⟨wr.heap.size, 0, none⟩) (Nat.le_refl _) _).setCell (p := ⟨wr.heap.size, 1, none⟩) (Nat.le_refl _) _
          clear hN s0 s1 sf gT0
          have hy' := St.y.tail ky
          have St2 : CoSt w W bF p (some ⟨bbx, ox, none⟩) ((v, c) :: X) cx (if cy = 1 then some (⟨bby, oy, none⟩ : Addr) else some ⟨bby, oy + 2, none⟩) Y (cy - 1) u10 S B := (St.mono hbW).step St.x St.xw St.xc St.xm hy' St.yw.tail (by omega) (by have := St.ym; omega) (by simp; omega)
          have hl1 : S.length + (((v, c) :: X) : Lin).length + Y.length + 1 ≤ B := by simp; omega
          have hw1 : (Lit.int .i64 u).wf = true ∧ (Lit.int .u64 m).wf = true := ⟨(St.yw _ (List.mem_cons_self ..)).1, wfU hmb⟩
          clear St hbW hy' wy hmb ny hx0 hx1 kx wx nx
          by_cases hcy : cy = 1
          case' pos => rw [if_pos hcy] at St2; subst hcy; replace ky := hide ky
          case' neg => rw [if_neg hcy] at St2
          all_goals
            by_cases h0 : m = 0
            · have hz : (m != 0) = false := by simpa using h0
              have hS2 : Hid (S ++ comb p n ((v, c) :: X) Y = C) := hide (by
                have := hS.out
                rw [hk.out, show keepT (u, m) = [] by unfold keepT; rw [if_pos h0]] at this
                exact this)
              replace h0 := hide h0
              clear hS hk
              have t1 := gT.cell (j := 1) (v := .int .u64 m) rfl
              go_wp2
              go_roundw
              case rel => exact ⟨((v, c) :: X), Y, S, (some ⟨bbx, ox, none⟩), cx, _, _, rfl, rfl, hS2, St2⟩
              case measure => simp [lenOf]; try omega
            · have hz : (m != 0) = true := by simpa using h0
              have hS2 : Hid (S ++ [(u, m)] ++ comb p n ((v, c) :: X) Y = C) := hide (by
                have := hS.out
                rw [hk.out, show keepT (u, m) = [(u, m)] by unfold keepT; rw [if_neg h0], ← List.append_assoc] at this
                exact this)
              replace h0 := hide h0
              clear hS hk
              have t0 := gT.cell (j := 0) (v := .int .i64 u) rfl
              have t1 := gT.cell (j := 1) (v := .int .u64 m) rfl
              have hSl : S.length ≤ 100000000 := by have := St2.len; omega
              go_wp2_with (at_builtin; refine wpList_appG _ tmL S [(u, m)] rfl _ _ 95 rfl w.heap.size 131 _ _ Tryz.underlying95 Tryz.infoTm rfl (by decide) _ 1 1 _ rfl rfl rfl (St2.o.alloc _) (SlG.one (Blk.newAt rfl) rfl) (by simp; omega) (by have := St2.b.size; simp; omega) ?_; intro v' w' hown hg; refine Hold.mk ?_)
              refine Hold.go ?_
              have St3 := (St2.mono ((Below.refl _ _).alloc (Nat.le_refl _) _)).app hown hg hw1 hl1
              clear hown hg St2 gT t0 t1
              go_wp2
              go_roundw
              case rel => exact ⟨((v, c) :: X), Y, S ++ [(u, m)], (some ⟨bbx, ox, none⟩), cx, _, _, rfl, rfl, hS2, St3⟩
              case measure => simp [lenOf]; try omega
        · obtain rfl : v = u := by omega
          clear hvu huv
          have hk : Hid (comb p n ((v, c) :: X) ((v, d) :: Y) = keepT (v, fadd p c (fmul p n d)) ++ comb p n X Y) := hide (by rw [comb, if_neg (Int.lt_irrefl _), if_neg (Int.lt_irrefl _)])
          have cM := fun W => Mul_any p n d W hn.1 hn.2 wy.2.1 wy.2.2
          have hm1 := fmul_bd p n d
          generalize fmul p n d = m1 at *
          have cA := fun W => Add_any p c m1 W wx.2.1 wx.2.2 hm1.1 hm1.2
          have hmb := fadd_bd p c m1
          generalize fadd p c m1 = m at *
          go_wp2_with fail
          go_region
          go_wp2_with fail
          go_region
          go_wp2_with fail
          refine name_world fun W0 hN => ?_
          have hbW : Below wr.heap.size wr W0 := by rw [hN]; exact ((Below.refl _ _).alloc (Nat.le_refl _) _).drew.drew
          have gT0 : Blk W0 wr.heap.size #[.int .i64 0, .int .u64 0] 131 := by rw [hN]; exact (Blk.newAt rfl).mono (Below.refl _ _).drew.drew
          clear hN
          have f0 := cell_later' ((St.f.mono hbW).cell (j := 0) (v := .int .u64 p) rfl)
          replace hx0 := cell_later' (cell_below hbW hx0)
          replace hx1 := cell_later' (cell_below hbW hx1)
          replace hy1 := cell_later' (cell_below hbW hy1)
          refine Rel.wp_region_later_tail 18 Tryz.mixed (by kernel_rfl) ?_
          simp only [List.take_succ_cons, List.take_zero, List.drop_succ_cons, List.drop_zero]
          repeat (first | go_big_quiet_step (first | (go_at_call 61; exact Calls.later_of (cM _)) | (go_at_call 114; exact Calls.later_of (cA _))) | quiet_step (first | (go_at_call 61; exact Calls.later_of (cM _)) | (go_at_call 114; exact Calls.later_of (cA _))))
          refine wpQuiet_nil ?_
          intro W1 hb1
          replace hb1 := below_of_later hb1
          clear f0 cM cA hy0 hy1 hx0 hx1
          replace hbW := below2 hbW hb1
          replace gT0 := gT0.mono hb1
          clear hb1
          have s0 := gT0.cell (j := 0) (v := .int .i64 0) rfl
          have s1 := gT0.cell (j := 1) (v := .int .u64 0) rfl
          have sf := gT0.free
          go_wp2_with fail
          refine name_world fun W3 hN => ?_
          have gT3 : Blk W3 wr.heap.size #[.int .i64 v, .int .u64 m] 131 := by rw [hN]; exact (gT0.set 0 (.int .i64 v)).set 1 (.int .u64 m)
          replace hbW : Below wr.heap.size wr W3 := by rw [hN]; exact (hbW.setCell (p := ⟨wr.heap.size, 0, none⟩) (Nat.le_refl _) _).setCell (p := ⟨wr.heap.size, 1, none⟩) (Nat.le_refl _) _
          clear hN s0 s1 sf gT0
          go_region
          have gT : Blk W3.drew wr.heap.size #[.int .i64 v, .int .u64 m] 131 := gT3.mono (Below.refl _ _).drew
          replace hbW : Below wr.heap.size wr W3.drew := hbW.drew
          clear gT3
          generalize W3.drew = W at *
          have hy' := St.y.tail ky
          have hx' := St.x.tail kx
          generalize (if cx = 1 then some (⟨bbx, ox, none⟩ : Addr) else some ⟨bbx, ox + 2, none⟩) = A1 at *
          generalize (if cy = 1 then some (⟨bby, oy, none⟩ : Addr) else some ⟨bby, oy + 2, none⟩) = A2 at *
          have St2 : CoSt w W bF p A1 X (cx - 1) A2 Y (cy - 1) u10 S B := (St.mono hbW).step hx' St.xw.tail (by omega) (by have := St.xm; omega) hy' St.yw.tail (by omega) (by have := St.ym; omega) (by omega)
          have hl1 : S.length + X.length + Y.length + 1 ≤ B := by omega
          have hw1 : (Lit.int .i64 v).wf = true ∧ (Lit.int .u64 m).wf = true := ⟨(St.yw _ (List.mem_cons_self ..)).1, wfU hmb⟩
          clear St hbW hx' hy' wx wy hmb hm1 kx ky nx ny
          by_cases h0 : m = 0
          · have hz : (m != 0) = false := by simpa using h0
            have hS2 : Hid (S ++ comb p n X Y = C) := hide (by
              have := hS.out
              rw [hk.out, show keepT (v, m) = [] by unfold keepT; rw [if_pos h0]] at this
              exact this)
            replace h0 := hide h0
            clear hS hk
            have t1 := gT.cell (j := 1) (v := .int .u64 m) rfl
            go_wp2
            go_roundw
            case rel => exact ⟨X, Y, S, A1, cx - 1, A2, cy - 1, rfl, rfl, hS2, St2⟩
            case measure => simp [lenOf]; try omega
          · have hz : (m != 0) = true := by simpa using h0
            have hS2 : Hid (S ++ [(v, m)] ++ comb p n X Y = C) := hide (by
              have := hS.out
              rw [hk.out, show keepT (v, m) = [(v, m)] by unfold keepT; rw [if_neg h0], ← List.append_assoc] at this
              exact this)
            replace h0 := hide h0
            clear hS hk
            have t0 := gT.cell (j := 0) (v := .int .i64 v) rfl
            have t1 := gT.cell (j := 1) (v := .int .u64 m) rfl
            have hSl : S.length ≤ 100000000 := by have := St2.len; omega
            go_wp2_with (at_builtin; refine wpList_appG _ tmL S [(v, m)] rfl _ _ 95 rfl w.heap.size 131 _ _ Tryz.underlying95 Tryz.infoTm rfl (by decide) _ 1 1 _ rfl rfl rfl (St2.o.alloc _) (SlG.one (Blk.newAt rfl) rfl) (by simp; omega) (by have := St2.b.size; simp; omega) ?_; intro v' w' hown hg; refine Hold.mk ?_)
            refine Hold.go ?_
            have St3 := (St2.mono ((Below.refl _ _).alloc (Nat.le_refl _) _)).app hown hg hw1 hl1
            clear hown hg St2 gT t0 t1
            go_wp2
            go_roundw
            case rel => exact ⟨X, Y, S ++ [(v, m)], A1, cx - 1, A2, cy - 1, rfl, rfl, hS2, St3⟩
            case measure => simp [lenOf]; try omega
end Go.Proofs.YtalmgeefkcebdaaGreatDoor

