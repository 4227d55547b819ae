/- GadgetMeaning: the results of comparisons, selections and logical operations have the values that their names say. -/
import Derived.Test.YtlgjnidphldiiaaGadXZ
import Derived.Test.YtlgjnidphldiiaaGadS
import Derived.Test.YtlgjnidphldiiaaFrame
namespace Go.Proofs.Ytlgjnidphldiiaa
open Go.ChangeShapes Go.WideShapes Go.ChangeAt Go.RowKit
namespace gadgetMeaning

theorem Sl.blk {w : World} {b : Nat} {cs : Array Value} {T : TypeId} {k : IntKind} (xs : List Int) (h : Blk w b cs T) (hc : cs = (xs.map (Value.int k)).toArray) : Sl w k (some ⟨b, 0, none⟩) xs := fun _ =>
  ⟨b, 0, rfl, h.lt, fun i hi => h.cell (by subst hc; simp [List.getD_eq_getElem?_getD, List.getElem?_eq_getElem hi])⟩
theorem rUpon_sl {P : Program} {f : FuncId} {args : Array Value} {W : World} {p : Later} {E : TypeId} {k : IntKind} {xs : List Int} (h : Calls P f args (later W p) (RetSl (later W p) E k xs)) :
    Rel.rUpon P (later W p) false (fun v w => Own w W.heap.size E k v xs) (.ok (.enter f args) (later W p)) :=
  ⟨rfl, h.mono fun _ _ ⟨v, he, hown, hb⟩ => ⟨v, he, hb, hown.low (below_later W p).size, fun h => by cases h⟩⟩
theorem rUpon_q {P : Program} {f : FuncId} {args : Array Value} {W : World} {p : Later} {v : Value} (h : Calls P f args (later W p) fun e w' => e = .returned v ∧ Below (later W p).heap.size (later W p) w') :
    Rel.rUpon P (later W p) false (fun u _ => u = v) (.ok (.enter f args) (later W p)) :=
  ⟨rfl, h.mono fun _ _ ⟨he, hb⟩ => ⟨v, he, hb, rfl, fun h => by cases h⟩⟩
def IsI2 (X Y : Int) (v : Value) (w : World) : Prop := ∃ b, v = .slice (some ⟨b, 0, none⟩) 2 2 ∧ Blk w b #[.int .u64 X, .int .u64 Y] 22
theorem IsI2.mono {X Y : Int} {v : Value} {w w' : World} (h : IsI2 X Y v w) (hb : Below w.heap.size w w') : IsI2 X Y v w' := by
  obtain ⟨b, h1, h2⟩ := h
  exact ⟨b, h1, h2.mono hb⟩
theorem rU_i2 {P : Program} (W : World) (p : Later) (X Y : Int) :
    Rel.rUpon P (later W p) false (IsI2 X Y) (.ok (.value (.slice (some ⟨(later W p).heap.size, 0, none⟩) 2 2)) ((later W p).alloc (.cells #[.int .u64 X, .int .u64 Y] 22))) :=
  ⟨(Below.refl _ _).alloc (Nat.le_refl _) _, ⟨_, rfl, Blk.new _ _ _⟩, fun h => by cases h⟩

theorem clos_any (p : Int) (s : Lc) (bp bw : Nat) (a : Option Addr) (c : Nat) (F : List Int) (w : World) (hs : LcOk w s) (gp : Blk w bp #[.int .u64 p] 22) (gw : Blk w bw #[.slice a F.length c] 54) (hW : Sl w .u64 a F) (hA : AllW F) (hl : linOk p F.length s.l = true) :
    Calls Try.prog 51 #[.slice s.ad s.l.length s.cap, .pointer (some ⟨bp, 0, none⟩), .pointer (some ⟨bw, 0, none⟩)] w fun e w' => e = .returned (.int .u64 (lval p F s.l)) ∧ Below w.heap.size w w' := by
  have cV := rValue20_any p s a c F w hs hW hA (fun i hi => (of_decide_eq_true hl i hi).1)
  generalize lval p F s.l = V at *
  replace hl := hide hl
  have k0 := gp.cell (j := 0) (v := .int .u64 p) rfl
  have k1 := gw.cell (j := 0) (v := .slice a F.length c) rfl
  go_enter Try.func51, Try.ntmps51
  go_wp2_with fail
  refine cV.mono ?_
  rintro e w1 ⟨rfl, hb1⟩
  go_wp2
  go_ret
  exact ⟨rfl, hb1⟩

def tr (b : Bool) : Int := if b then 1 else 0
theorem truth_any (b : Bool) (w : World) : Calls Try.prog 52 #[.bool b] w fun e w' => e = .returned (.int .u64 (tr b)) ∧ Below w.heap.size w w' := by
  cases b with
  | false =>
    go_enter Try.func52, Try.ntmps52
    go_wp2
    go_ret
    exact ⟨rfl, Below.refl _ _⟩
  | true =>
    go_enter Try.func52, Try.ntmps52
    go_wp2
    go_ret
    exact ⟨rfl, Below.refl _ _⟩

theorem SlG.blk {α : Type} {L : Lay α} {w : World} {b : Nat} {cs : Array Value} {T : TypeId} {xs : List α} (g : Blk w b cs T) (e : cs.toList = xs.flatMap L.f) : SlG L w (some ⟨b, 0, none⟩) xs := fun _ =>
  ⟨b, 0, rfl, g.lt, fun k u hu => by
    rw [Nat.zero_add]
    refine g.cell ?_
    rw [← e] at hu
    simpa using hu⟩

set_option maxRecDepth 10000 in
set_option maxHeartbeats 64000000 in
theorem walk (p x y : Int) (w : World) (_ : (Lit.int .u64 p).wf = true) (hx : (Lit.int .u64 x).wf = true) (hy : (Lit.int .u64 y).wf = true) :
    Calls Try.prog 7 #[.int .u64 p, .int .u64 x, .int .u64 y] w fun e w' => e = .returned (.bool true) ∧ Below w.heap.size w w' := by
  have hx2 := wf_u64 hx
  have hy2 := wf_u64 hy
  clear hx hy
  have cR := fun W => sRight_any p 0 2 none 0 0 0 W
  obtain ⟨v, hv⟩ : ∃ v, v = vld p := ⟨_, rfl⟩
  rw [← hv] at cR
  simp only [show decide ((0 : Int) ≤ 4) = true from rfl, show decide ((2 : Int) ≤ 4) = true from rfl, show decide (((0 : Nat) : Int) ≤ 0) = true from rfl, Bool.and_true] at cR
  cases v with
  | false =>
    clear hv
    go_enter Try.func7, Try.ntmps7
    go_wp2_with fail
    refine name_calls fun W hN => ?_
    have gp : Blk W w.heap.size #[.int .u64 p] 22 := by rw [hN]; exact (Blk.newAt rfl).alloc _
    have g0 : Blk W (w.heap.size + 1) #[.int .u64 p, .int .u8 0, .int .u8 2, .slice none 0 0] 66 := by rw [hN]; exact Blk.newAt (by simp)
    have hB : Below w.heap.size w W := by rw [hN]; exact ((Below.refl _ _).alloc (Nat.le_refl _) _).alloc (by simp) _
    clear hN
    refine (awake20 W).mono ?_
    rintro e w1 ⟨rfl, hb1⟩
    replace hB := below2 hB hb1
    replace g0 := g0.mono hb1
    replace gp := gp.mono hb1
    have k0 := g0.cell (j := 0) (v := .int .u64 p) rfl
    have k1 := g0.cell (j := 1) (v := .int .u8 0) rfl
    have k2 := g0.cell (j := 2) (v := .int .u8 2) rfl
    have k3 := g0.cell (j := 3) (v := .slice none 0 0) rfl
    go_wp2_with fail
    refine (cR w1).mono ?_
    rintro e w2 ⟨rfl, hb2⟩
    replace hB := below2 hB hb2
    replace g0 := g0.mono hb2
    replace gp := gp.mono hb2
    clear k0 k1 k2 k3 cR hb1 hb2
    go_wp2_with fail
    refine (awake20 w2).mono ?_
    rintro e w3 ⟨rfl, hb3⟩
    go_wp2
    go_ret
    exact ⟨rfl, below2 hB hb3⟩
  | true =>
    have hv' := hv.symm
    have hp := vld_pos hv'
    obtain ⟨d1, d2, d3⟩ := wid_bd hv'
    obtain ⟨n, hn⟩ : ∃ n : Nat, (n : Int) = 255 % (wid p + 1) := ⟨(255 % (wid p + 1)).toNat, by have := mod_lt' (show 0 < wid p + 1 by omega) 255; omega⟩
    have hn6 : n ≤ 6 := by have := mod_lt' (show 0 < wid p + 1 by omega) 255; omega
    have hnp : (2 : Int) ^ (n + 1) < p := by
      have h3 : (2 : Int) ^ (n + 1) ≤ 2 ^ ((wid p).toNat + 1) := by exact_mod_cast Nat.pow_le_pow_right (show 0 < 2 by decide) (show n + 1 ≤ (wid p).toNat + 1 by have := mod_lt' (show 0 < wid p + 1 by omega) 255; omega)
      omega
    have cW := fun W => sWidth_any p 0 2 none 0 0 255 W hv' (by decide)
    rw [← hn] at cW
    have hq0 := two_pos n
    have hq1 : (2 : Int) ^ (n + 1) = 2 * 2 ^ n := by rw [Int.pow_succ, Int.mul_comm]
    obtain ⟨X, hX⟩ : ∃ X, X = x % 2 ^ n := ⟨_, rfl⟩
    obtain ⟨Y, hY⟩ : ∃ Y, Y = y % 2 ^ n := ⟨_, rfl⟩
    have bX : 0 ≤ X ∧ X < 2 ^ n := by rw [hX]; exact mod_lt' hq0 x
    have bY : 0 ≤ Y ∧ Y < 2 ^ n := by rw [hY]; exact mod_lt' hq0 y
    have hqw : IntKind.u64.wrap ((2 : Int) ^ n) = 2 ^ n := by rw [IntKind.wrap_u64]; omega
    have tX : x.tmod (2 ^ n) = X := by rw [hX, Int.tmod_eq_emod_of_nonneg hx2.1]
    have tY : y.tmod (2 ^ n) = Y := by rw [hY, Int.tmod_eq_emod_of_nonneg hy2.1]
    have M := hide (mng (n := n) hv' bX bY hnp hn6)
    have bX' : 0 ≤ X ∧ X < 18446744073709551616 := by omega
    have bY' : 0 ≤ Y ∧ Y < 18446744073709551616 := by omega
    have hAI : AllW [X, Y] := fun z hz => by
      simp only [List.mem_cons, List.not_mem_nil, or_false] at hz
      rcases hz with rfl | rfl <;> omega
    replace hn := hide hn
    replace hX := hide hX
    replace hY := hide hY
    replace hq1 := hide hq1
    replace bX := hide bX
    replace bY := hide bY
    clear hv d1 d2 d3
    go_enter Try.func7, Try.ntmps7
    go_wp2_with fail
    refine name_calls fun W hN => ?_
    have gp : Blk W w.heap.size #[.int .u64 p] 22 := by rw [hN]; exact (Blk.newAt rfl).alloc _
    have g0 : Blk W (w.heap.size + 1) #[.int .u64 p, .int .u8 0, .int .u8 2, .slice none 0 0] 66 := by rw [hN]; exact Blk.newAt (by simp)
    have hB : Below w.heap.size w W := by rw [hN]; exact ((Below.refl _ _).alloc (Nat.le_refl _) _).alloc (by simp) _
    clear hN
    refine (awake20 W).mono ?_
    rintro e w1 ⟨rfl, hb1⟩
    replace hB := below2 hB hb1
    replace g0 := g0.mono hb1
    replace gp := gp.mono hb1
    have k0 := g0.cell (j := 0) (v := .int .u64 p) rfl
    have k1 := g0.cell (j := 1) (v := .int .u8 0) rfl
    have k2 := g0.cell (j := 2) (v := .int .u8 2) rfl
    have k3 := g0.cell (j := 3) (v := .slice none 0 0) rfl
    go_wp2_with fail
    refine (cR w1).mono ?_
    rintro e w2 ⟨rfl, hb2⟩
    replace hB := below2 hB hb2
    replace g0 := g0.mono hb2
    replace gp := gp.mono hb2
    clear k0 k1 k2 k3 cR hb1 hb2
    have k0 := g0.cell (j := 0) (v := .int .u64 p) rfl
    have k1 := g0.cell (j := 1) (v := .int .u8 0) rfl
    have k2 := g0.cell (j := 2) (v := .int .u8 2) rfl
    have k3 := g0.cell (j := 3) (v := .slice none 0 0) rfl
    go_wp2_with fail
    refine (cW w2).mono ?_
    rintro e w3 ⟨rfl, hb3⟩
    replace hB := below2 hB hb3
    replace g0 := g0.mono hb3
    replace gp := gp.mono hb3
    clear k0 k1 k2 k3 cW hb3
    have hq2 : (2 : Int) ^ n ≠ 0 := by omega
    go_wp2_with fail
    refine wp_region_later Try.mixed (by kernel_rfl) ?_
    repeat (first | go_big_quiet_step (first | fail) | quiet_step (first | fail))
    refine wpQuiet_nil ?_
    intro w4 hb4
    replace hb4 := below_of_later hb4
    replace hB := below2 hB hb4
    replace g0 := g0.mono hb4
    replace gp := gp.mono hb4
    clear hb4 tX tY hqw hq2 hq0
    have k0 := g0.cell (j := 0) (v := .int .u64 p) rfl
    have k1 := g0.cell (j := 1) (v := .int .u8 0) rfl
    have k2 := g0.cell (j := 2) (v := .int .u8 2) rfl
    have k3 := g0.cell (j := 3) (v := .slice none 0 0) rfl
    have cr := run0_any p 0 2 none 0 w4 hv' (by decide)
    go_wp2_with fail
    refine cr.mono ?_
    rintro e w5 ⟨b, lv, Ls, rfl, hB1, ow, hls, eLs, hb5⟩
    obtain ⟨va, vc, rfl, _⟩ := ow.sl
    have hz := hB.size
    replace hB := below2 hB hb5
    replace gp := gp.mono hb5
    clear k0 k1 k2 k3 cr ow hls eLs hb5 g0
    obtain ⟨cs, gb, h0, h2, h5⟩ := hB1.cells
    have cI := fun (i : Int) W hb hi => Input20_any b cs _ p 0 2 i W (Blk.mono gb hb) h0 h2 h5 hv' (by decide) hi
    go_wp2_with fail
    refine (cI 0 w5 (Below.refl _ _) (by decide)).mono ?_
    rintro e w6 ⟨u, rfl, eu, lu, hb6⟩
    rw [if_pos (by decide)] at eu
    go_wp2_with fail
    refine (cI 1 w6 hb6 (by decide)).mono ?_
    rintro e w7 ⟨v, rfl, ev, lv, hb7⟩
    rw [if_pos (by decide)] at ev
    have eu : Hid (u.l = [(1, 1)]) := hide eu.out
    have ev : Hid (v.l = [(2, 1)]) := hide (ev.out.trans (by rfl))
    have zu : Hid (u.l.length ≤ 80) := hide (by rw [eu.out]; decide)
    have zv : Hid (v.l.length ≤ 80) := hide (by rw [ev.out]; decide)
    replace lu := lu.mono hb7
    replace hB1 := hB1.mono (below2 hb6 hb7)
    replace hB := below2 hB (below2 hb6 hb7)
    replace gp := gp.mono (below2 hb6 hb7)
    clear cI h0 h2 h5 gb hb6 hb7 cs
    have hbd : Bd (newS p 0 2) 3 := ⟨⟨(by decide : (0 : Int) ≤ 3), (by decide : (3 : Int) ≤ 3)⟩, (by decide : ((0 : Nat) : Int) ≤ 3), (by decide : ((0 : Nat) : Int) ≤ 3)⟩
    have hle : ∀ l : Lin, LinIn p 0 (mBits p n).vars l → l.length ≤ 80 := fun l h => by
      have h1 := M.out.bd.2.2.2.2.2.2.v
      have := h.len h1.1
      omega
    replace hle := hide hle
    have cG := Less20_any w4.heap.size b (newS p 0 2) 3 u v n w7 hB1 hv' hbd (by decide) lu lv (by have := zu.out; omega) (by have := zv.out; omega) (by omega)
    go_wp2_with fail
    refine cG.mono ?_
    rintro e w8 ⟨ls, rfl, els, lls, hB2, kk⟩
    rw [eu.out, ev.out] at hB2 els
    replace hB1 : Bld w8 w4.heap.size b (mLess p n).1 := hB2
    replace els : Hid (ls.l = (mLess p n).2) := els
    have zls : Hid (ls.l.length ≤ 80) := hide (by rw [els.out]; exact hle.out _ M.out.lin.1)
    replace lu := kk.lin lu
    replace lv := kk.lin lv
    replace gp := kk.typ _ _ _ gp (by decide) (by decide) (by decide)
    replace hB := hB.trans (kk.below.mono hz)
    clear cG hB2 kk
    have cG := Equal20_any w4.heap.size b (mLess p n).1 20 u v w8 hB1 (by rw [M.out.pp.1]; exact hv') M.out.bd.1 (by decide) lu lv (by have := zu.out; omega) (by have := zv.out; omega)
    go_wp2_with fail
    refine cG.mono ?_
    rintro e w9 ⟨eq, rfl, eeq, leq, hB2, kk⟩
    rw [eu.out, ev.out] at hB2 eeq
    replace hB1 : Bld w9 w4.heap.size b (mEq p n).1 := hB2
    replace eeq : Hid (eq.l = (mEq p n).2) := eeq
    have zeq : Hid (eq.l.length ≤ 80) := hide (by rw [eeq.out]; exact hle.out _ M.out.lin.2.1)
    replace lu := kk.lin lu
    replace lv := kk.lin lv
    replace lls := kk.lin lls
    replace gp := kk.typ _ _ _ gp (by decide) (by decide) (by decide)
    replace hB := hB.trans (kk.below.mono hz)
    clear cG hB2 kk
    have cG := IsZero20_any w4.heap.size b (mEq p n).1 25 u w9 hB1 (by rw [M.out.pp.2.1]; exact hv') M.out.bd.2.1 (by decide) lu (by have := zu.out; omega)
    go_wp2_with fail
    refine cG.mono ?_
    rintro e w10 ⟨ze, rfl, eze, lze, hB2, kk⟩
    rw [eu.out] at hB2 eze
    replace hB1 : Bld w10 w4.heap.size b (mZero p n).1 := hB2
    replace eze : Hid (ze.l = (mZero p n).2) := eze
    have zze : Hid (ze.l.length ≤ 80) := hide (by rw [eze.out]; exact hle.out _ M.out.lin.2.2.1)
    replace lu := kk.lin lu
    replace lv := kk.lin lv
    replace lls := kk.lin lls
    replace leq := kk.lin leq
    replace gp := kk.typ _ _ _ gp (by decide) (by decide) (by decide)
    replace hB := hB.trans (kk.below.mono hz)
    clear cG hB2 kk
    have cG := And20_any w4.heap.size b (mZero p n).1 30 ls ze w10 hB1 (by rw [M.out.pp.2.2.1]; exact hv') M.out.bd.2.2.1 (by decide) lls lze (by have := zls.out; omega) (by have := zze.out; omega)
    go_wp2_with fail
    refine cG.mono ?_
    rintro e w11 ⟨bo, rfl, ebo, lbo, hB2, kk⟩
    rw [els.out, eze.out] at hB2
    replace hB1 : Bld w11 w4.heap.size b (mBoth p n) := hB2
    replace ebo : Hid (bo.l = (nv (mZero p n).1)) := ebo
    have zbo : Hid (bo.l.length ≤ 80) := hide (by rw [ebo.out]; exact hle.out _ M.out.lin.2.2.2.1)
    replace lu := kk.lin lu
    replace lv := kk.lin lv
    replace lls := kk.lin lls
    replace leq := kk.lin leq
    replace lze := kk.lin lze
    replace gp := kk.typ _ _ _ gp (by decide) (by decide) (by decide)
    replace hB := hB.trans (kk.below.mono hz)
    clear cG hB2 kk
    have cG := Or20_any w4.heap.size b (mBoth p n) 40 ls ze w11 hB1 (by rw [M.out.pp.2.2.2.1]; exact hv') M.out.bd.2.2.2.1 (by decide) lls lze (by have := zls.out; omega) (by have := zze.out; omega)
    go_wp2_with fail
    refine cG.mono ?_
    rintro e w12 ⟨on, rfl, eon, lon, hB2, kk⟩
    rw [els.out, eze.out] at hB2 eon
    replace hB1 : Bld w12 w4.heap.size b (mOne p n).1 := hB2
    replace eon : Hid (on.l = (mOne p n).2) := eon
    have zon : Hid (on.l.length ≤ 80) := hide (by rw [eon.out]; exact hle.out _ M.out.lin.2.2.2.2.1)
    replace lu := kk.lin lu
    replace lv := kk.lin lv
    replace lls := kk.lin lls
    replace leq := kk.lin leq
    replace lze := kk.lin lze
    replace lbo := kk.lin lbo
    replace gp := kk.typ _ _ _ gp (by decide) (by decide) (by decide)
    replace hB := hB.trans (kk.below.mono hz)
    clear cG hB2 kk
    obtain ⟨csn, gn, hn0⟩ := hB1.cell0
    have cG := Not20_any b csn _ (mOne p n).1.p eq w12 gn hn0 (by rw [M.out.pp.2.2.2.2.1]; exact hv') leq.ok (by have := zeq.out; omega)
    go_wp2_with fail
    refine cG.mono ?_
    rintro e w13 ⟨nt, rfl, ent, lnt, hbn⟩
    rw [eeq.out, M.out.pp.2.2.2.2.1] at ent
    have znt : Hid (nt.l.length ≤ 80) := hide (by rw [ent.out]; exact hle.out _ M.out.lin.2.2.2.2.2.1)
    replace lu := lu.mono hbn
    replace lv := lv.mono hbn
    replace lls := lls.mono hbn
    replace leq := leq.mono hbn
    replace lze := lze.mono hbn
    replace lbo := lbo.mono hbn
    replace lon := lon.mono hbn
    replace gp := gp.mono hbn
    replace hB1 := hB1.mono hbn
    replace hB := below2 hB hbn
    clear cG hbn gn hn0 csn
    have cG := Select20_any w4.heap.size b (mOne p n).1 50 ls u v w13 hB1 (by rw [M.out.pp.2.2.2.2.1]; exact hv') M.out.bd.2.2.2.2.1 (by decide) lls lu lv (by have := zls.out; omega) (by have := zu.out; omega) (by have := zv.out; omega)
    go_wp2_with fail
    refine cG.mono ?_
    rintro e w14 ⟨pk, rfl, epk, lpk, hB2, kk⟩
    rw [els.out, eu.out, ev.out] at hB2 epk
    replace hB1 : Bld w14 w4.heap.size b (mPick p n).1 := hB2
    replace epk : Hid (pk.l = (mPick p n).2) := epk
    have zpk : Hid (pk.l.length ≤ 80) := hide (by rw [epk.out]; exact hle.out _ M.out.lin.2.2.2.2.2.2)
    replace lu := kk.lin lu
    replace lv := kk.lin lv
    replace lls := kk.lin lls
    replace leq := kk.lin leq
    replace lze := kk.lin lze
    replace lbo := kk.lin lbo
    replace lon := kk.lin lon
    replace lnt := kk.lin lnt
    replace gp := kk.typ _ _ _ gp (by decide) (by decide) (by decide)
    replace hB := hB.trans (kk.below.mono hz)
    clear cG hB2 kk
    have cG := Bits20_any w4.heap.size b (mPick p n).1 60 u n w14 hB1 (by rw [M.out.pp.2.2.2.2.2.1]; exact hv') M.out.bd.2.2.2.2.2.1 (by decide) lu (by have := zu.out; omega) (by omega)
    go_wp2_with fail
    refine cG.mono ?_
    rintro e w15 ⟨bv, bL, rfl, bo', hbl, hbb, hB2, kk⟩
    rw [eu.out] at hB2
    replace hB1 : Bld w15 w4.heap.size b (mBits p n) := hB2
    replace lu := kk.lin lu
    replace lv := kk.lin lv
    replace lls := kk.lin lls
    replace leq := kk.lin leq
    replace lze := kk.lin lze
    replace lbo := kk.lin lbo
    replace lon := kk.lin lon
    replace lnt := kk.lin lnt
    replace lpk := kk.lin lpk
    replace gp := kk.typ _ _ _ gp (by decide) (by decide) (by decide)
    replace hB := hB.trans (kk.below.mono hz)
    obtain ⟨ba, bc, ebv, _⟩ := bo'.sl
    rw [hbl] at ebv
    subst ebv
    replace hbl := hide hbl
    replace hbb := hide hbb
    clear cG hB2 kk
    have u1 := M.out.wf
    have u5 := M.out.sat
    have hlens := M.out.bd.2.2.2.2.2.2
    have cC := circ_any w4.heap.size b (mBits p n) [X, Y] p w15 hB1 u1 M.out.pp.2.2.2.2.2.2 (by have := hlens.v; omega) (by have := hlens.r; omega)
    have hFW := fin_W u1
    have hFl := u1.fin_len
    have hbits : Hid (∀ i : Nat, i < n → linOk p (fin (mBits p n) [X, Y]).length (bL.getD i default).l = true ∧ lval p (fin (mBits p n) [X, Y]) (bL.getD i default).l = X / 2 ^ i % 2) := hide fun i hi => by
      rw [(hbb.out i hi).2, hFl]
      exact ⟨lin_ok (M.out.bits i hi).1, (M.out.bits i hi).2⟩
    have hok : Hid (∀ s ∈ [ls, eq, ze, bo, on, nt, pk], linOk p (fin (mBits p n) [X, Y]).length s.l = true) := hide fun s hs => by
      rw [hFl]
      simp only [List.mem_cons, List.not_mem_nil, or_false] at hs
      obtain ⟨m1, m2, m3, m4, m5, m6, m7⟩ := M.out.lin
      rcases hs with rfl | rfl | rfl | rfl | rfl | rfl | rfl
      · rw [els.out]; exact lin_ok m1
      · rw [eeq.out]; exact lin_ok m2
      · rw [eze.out]; exact lin_ok m3
      · rw [ebo.out]; exact lin_ok m4
      · rw [eon.out]; exact lin_ok m5
      · rw [ent.out]; exact lin_ok m6
      · rw [epk.out]; exact lin_ok m7
    obtain ⟨va1, va2, va3, va4, va5, va6, va7⟩ := M.out.val
    rw [← els.out] at va1
    rw [← eeq.out] at va2
    rw [← eze.out] at va3
    rw [← ebo.out] at va4
    rw [← eon.out] at va5
    rw [← ent.out] at va6
    rw [← epk.out] at va7
    have hval := hide (And.intro va1 (And.intro va2 (And.intro va3 (And.intro va4 (And.intro va5 (And.intro va6 va7))))))
    generalize fin (mBits p n) [X, Y] = F at *
    generalize Sat (mBits p n) [X, Y] = ok at *
    clear va1 va2 va3 va4 va5 va6 va7 hB1 hbd hlens hFl u1 els eeq eze ebo eon ent epk
    replace u5 := hide u5
    go_wp2_with fail
    refine cC.mono ?_
    rintro e w20 ⟨pub, vars, ra, R, rc, sec, ha, H, hc, rfl, hR, hH, hC, hln, hF, hfl, hsat, hvb, hsw, hb4⟩
    have hBs : rowsSat p F R = true := hsat.out.2 u5.out
    have cB := fun W h1 h2 => bounded_any p pub vars ra R rc sec ha H hc W h1 h2 hC.out
    have cS := fun a c W h1 h2 => rSat20_any p pub vars ra R rc a c F W h1 h2 hFW (cir_bd hC.out).1 hfl.out
    have cK := fun a W h1 h2 => Complete_any p pub vars ra R rc sec ha H hc a 2 [X, Y] W h1 h2 hAI hC.out hln.out
    rw [hF.out] at cK
    rw [hBs] at cS
    clear hsat u5 cC hBs
    replace lu := lu.mono hb4
    replace lv := lv.mono hb4
    replace lls := lls.mono hb4
    replace leq := leq.mono hb4
    replace lze := lze.mono hb4
    replace lbo := lbo.mono hb4
    replace lon := lon.mono hb4
    replace lnt := lnt.mono hb4
    replace lpk := lpk.mono hb4
    replace gp := gp.mono hb4
    replace bo' := bo'.mono hb4
    replace hbb := hide fun i hi => (hbb.out i hi).1.mono hb4
    replace hB := below2 hB hb4
    clear hb4
    go_wp2_with fail
    refine name_calls fun w21 hN => ?_
    have gC : Blk w21 w20.heap.size #[.int .u64 p, .int .i64 pub, .int .i64 vars, .slice ra R.length rc, .int .i64 sec, .slice ha H.length hc] 37 := by rw [hN]; exact Blk.newAt rfl
    have hb5 : Below w20.heap.size w20 w21 := by rw [hN]; exact (Below.refl _ _).alloc (Nat.le_refl _) _
    clear hN
    refine (cB w21 (hR.mono hb5) (hH.mono hb5)).mono ?_
    rintro e w22 ⟨rfl, hb6⟩
    replace hb5 := below2 hb5 hb6
    replace gC := gC.mono hb6
    clear hb6 cB
    have m0 := gC.cell (j := 0) (v := .int .u64 p) rfl; have m1 := gC.cell (j := 1) (v := .int .i64 pub) rfl; have m2 := gC.cell (j := 2) (v := .int .i64 vars) rfl; have m3 := gC.cell (j := 3) (v := .slice ra R.length rc) rfl; have m4 := gC.cell (j := 4) (v := .int .i64 sec) rfl; have m5 := gC.cell (j := 5) (v := .slice ha H.length hc) rfl
    have hbn : ((n : Int) != (n : Int)) = false := by simp
    go_wp2_with fail
    clear m0 m1 m2 m3 m4 m5
    refine name_calls fun w23 hN => ?_
    have g9 : Blk w23 w22.heap.size #[.int .u64 X, .int .u64 Y] 22 := by rw [hN]; exact Blk.newAt rfl
    have hb6 : Below w22.heap.size w22 w23 := by rw [hN]; exact (Below.refl _ _).alloc (Nat.le_refl _) _
    clear hN
    replace hb5 := below2 hb5 hb6
    replace gC := gC.mono hb6
    refine (cK _ w23 (hH.mono hb5) (Sl.blk [X, Y] g9 rfl)).mono ?_
    rintro e w24 ⟨v10, rfl, own10, hb7⟩
    obtain ⟨a10, c10, rfl, sl10, _, _⟩ := Own.sl own10
    replace hb5 := below2 hb5 hb7
    replace gC := gC.mono hb7
    clear own10 hb7 hb6 cK g9
    have m0 := gC.cell (j := 0) (v := .int .u64 p) rfl; have m1 := gC.cell (j := 1) (v := .int .i64 pub) rfl; have m2 := gC.cell (j := 2) (v := .int .i64 vars) rfl; have m3 := gC.cell (j := 3) (v := .slice ra R.length rc) rfl; have m4 := gC.cell (j := 4) (v := .int .i64 sec) rfl; have m5 := gC.cell (j := 5) (v := .slice ha H.length hc) rfl
    have hgl := gC.lt
    go_wp2_with fail
    clear m0 m1 m2 m3 m4 m5
    refine name_calls fun w25 hN => ?_
    have gW : Blk w25 w24.heap.size #[.slice a10 F.length c10] 54 := by rw [hN]; exact Blk.newAt rfl
    have hb6 : Below w24.heap.size w24 w25 := by rw [hN]; exact (Below.refl _ _).alloc (Nat.le_refl _) _
    clear hN hgl
    replace hb5 := below2 hb5 hb6
    replace sl10 := sl10.mono hb6
    refine (cS a10 c10 w25 (hR.mono hb5) sl10).mono ?_
    rintro e w26 ⟨rfl, hb7⟩
    replace hb5 := below2 hb5 hb7
    replace sl10 := sl10.mono hb7
    replace gW := gW.mono hb7
    have hFl : F.length ≤ 65536 := by have := hfl.out; omega
    clear hb6 hb7 cS gC hR hH hC hln hF hfl hsw
    replace lu := lu.mono hb5
    replace lv := lv.mono hb5
    replace lls := lls.mono hb5
    replace leq := leq.mono hb5
    replace lze := lze.mono hb5
    replace lbo := lbo.mono hb5
    replace lon := lon.mono hb5
    replace lnt := lnt.mono hb5
    replace lpk := lpk.mono hb5
    replace gp := gp.mono hb5
    replace bo' := bo'.mono hb5
    replace hbb := hide fun i hi => (hbb.out i hi).mono hb5
    replace hB := below2 hB hb5
    clear hb5
    go_wp2_with fail
    go_loopw [115] (fun t115 wr => ∃ k : Nat, k ≤ n ∧ t115 = .int .i64 k ∧ Below w26.heap.size w26 wr) (fun t115 _ => n - (intOf t115).toNat)
    case atStart => exact ⟨0, Nat.zero_le _, rfl, Below.refl _ _⟩
    case round =>
      obtain ⟨k, hk, rfl, hb⟩ := hrel
      have gp2 := gp.mono hb
      have gW2 := gW.mono hb
      have sl2 := sl10.mono hb
      by_cases hlt : k < n
      · have hlt' : (k : Int) < n := by omega
        have bo2 := bo'.mono hb
        rcases bo2.form with ⟨e0, h0⟩ | ⟨gq, cap, cur, e4, _, gb4, hcap, _⟩
        · have := hbl.out
          rw [h0] at this
          simp at this
          omega
        obtain rfl : ba = some ⟨gq, 0, none⟩ := by injection e4
        have he := bo2.cellE (i := k) (j := 0) default (by rw [hbl.out]; exact hlt) (by decide) rfl
        rw [show k * lcL.m + 0 = k from by show k * 1 + 0 = k; omega] at he
        obtain ⟨f1, f2⟩ := hbits.out k hlt
        have lz := (hbb.out k hlt).mono hb
        clear hbits hbb bo2 e4 gb4 hcap bo' hok hval lls leq lze lbo lon lnt lpk lu lv
        generalize bL.getD k default = z at *
        have he' : wr.cell? ⟨gq, k, none⟩ = some (.slice z.ad z.l.length z.cap) := he
        have kp := cell_later' (gp2.cell (j := 0) (v := .int .u64 p) rfl)
        have kw := cell_later' (gW2.cell (j := 0) (v := .slice a10 F.length c10) rfl)
        have cRi := fun P => rRight_any p (F.length : Int) z (later wr P) (lz.mono (below_later _ _)).ok
        have cCl := fun P => clos_any p z w.heap.size w24.heap.size a10 c10 F (later wr P) (lz.mono (below_later _ _)).ok (gp2.mono (below_later _ _)) (gW2.mono (below_later _ _)) (sl2.mono (below_later _ _)) hFW f1
        rw [f1] at cRi
        rw [f2] at cCl
        obtain ⟨T, hT⟩ : ∃ T, T = X / 2 ^ k % 2 := ⟨_, rfl⟩
        have ht : (X / 2 ^ k).tmod 2 = T := by rw [hT, Int.tmod_eq_emod_of_nonneg (Int.ediv_nonneg bX'.1 (Int.le_of_lt (two_pos k)))]
        rw [← hT] at cCl
        replace hT := hide hT
        replace hbl := hide hbl
        clear he f1 f2 lz gp gW sl10 gp2 gW2 sl2
        go_wp2_with fail
        refine wp_region_later Try.mixed (by kernel_rfl) ?_
        repeat (first | go_big_quiet_step (first | (go_at_call 34; exact Calls.later_of (cRi _)) | (go_at_call 51; exact Calls.later_of (cCl _))) | quiet_step (first | (go_at_call 34; exact Calls.later_of (cRi _)) | (go_at_call 51; exact Calls.later_of (cCl _))))
        refine wpQuiet_nil ?_
        intro w3 hb3
        replace hb3 := below_of_later hb3
        replace hb := below2 hb hb3
        clear cRi cCl kp kw ht hb3
        go_wp2
        go_roundw
        case rel => exact ⟨k + 1, by omega, by go_num, hb⟩
        case measure => simp [intOf]; omega
      · obtain rfl : k = n := by omega
        clear bo' hbits hbb
        obtain ⟨wA, hwA⟩ : ∃ wA, wA = wr := ⟨_, rfl⟩
        subst hwA
        go_wp2_with fail
        refine name_world fun w30 hN => ?_
        have g7 : Blk w30 wA.heap.size #[.slice ls.ad ls.l.length ls.cap, .slice eq.ad eq.l.length eq.cap, .slice ze.ad ze.l.length ze.cap, .slice bo.ad bo.l.length bo.cap, .slice on.ad on.l.length on.cap, .slice nt.ad nt.l.length nt.cap, .slice pk.ad pk.l.length pk.cap] 44 := by rw [hN]; exact Blk.newAt rfl
        have hb7 : Below wA.heap.size wA w30 := by rw [hN]; exact (Below.refl _ _).alloc (Nat.le_refl _) _
        clear hN
        have s7 : SlG lcL w30 (some ⟨wA.heap.size, 0, none⟩) [ls, eq, ze, bo, on, nt, pk] := SlG.blk g7 rfl
        have hb26 := below2 hb hb7
        replace gp := gp.mono hb26
        replace gW := gW.mono hb26
        replace sl10 := sl10.mono hb26
        replace hB := below2 hB hb26
        have ll : ∀ s ∈ [ls, eq, ze, bo, on, nt, pk], LinT w30 s := fun s hs => by
          simp only [List.mem_cons, List.not_mem_nil, or_false] at hs
          rcases hs with rfl | rfl | rfl | rfl | rfl | rfl | rfl
          · exact lls.mono hb26
          · exact leq.mono hb26
          · exact lze.mono hb26
          · exact lbo.mono hb26
          · exact lon.mono hb26
          · exact lnt.mono hb26
          · exact lpk.mono hb26
        replace ll := hide ll
        clear lls leq lze lbo lon lnt lpk lu lv g7 hb26 hb hb7 gp2 gW2 sl2
        go_loopw [146] (fun t146 wr => ∃ k : Nat, k ≤ 7 ∧ t146 = .int .i64 k ∧ Below w30.heap.size w30 wr) (fun t146 _ => 7 - (intOf t146).toNat)
        case atStart => exact ⟨0, by omega, rfl, Below.refl _ _⟩
        case round =>
          obtain ⟨k, hk, rfl, hb⟩ := hrel
          have gp2 := gp.mono hb
          have gW2 := gW.mono hb
          have sl2 := sl10.mono hb
          by_cases hlt : k < 7
          · have hlt' : (k : Int) < 7 := by omega
            obtain ⟨gq, off, e, _, hcc⟩ := (s7.mono hb) (by simp)
            cases e
            have he := hcc (k * lcL.m + 0) _ (by rw [lcL.flat_get _ default (by simpa using hlt) (by decide)]; rfl)
            rw [show 0 + (k * lcL.m + 0) = k from by show 0 + (k * 1 + 0) = k; omega] at he
            have hm := getD_mem' (xs := [ls, eq, ze, bo, on, nt, pk]) (i := k) (by simpa using hlt) default
            have lz := (ll.out _ hm).mono hb
            have f1 := hok.out _ hm
            clear hcc hm ll hok hval s7
            generalize [ls, eq, ze, bo, on, nt, pk].getD k default = z at *
            have he' : wr.cell? ⟨wA.heap.size, k, none⟩ = some (.slice z.ad z.l.length z.cap) := he
            have kp := gp2.cell (j := 0) (v := .int .u64 p) rfl
            have kw := gW2.cell (j := 0) (v := .slice a10 F.length c10) rfl
            have cRi := rRight_any p (F.length : Int) z wr lz.ok
            rw [f1] at cRi
            clear he f1 lz gp gW sl10 gp2 gW2 sl2
            go_wp2_with fail
            refine cRi.mono ?_
            rintro e w3 ⟨rfl, hb3⟩
            replace hb := below2 hb hb3
            clear cRi kp kw hb3 he'
            go_wp2
            go_roundw
            case rel => exact ⟨k + 1, by omega, by go_num, hb⟩
            case measure => simp [intOf]; omega
          · obtain rfl : k = 7 := by omega
            have cc := fun (s : Lc) (hs : s ∈ [ls, eq, ze, bo, on, nt, pk]) (W : World) (h : Below wr.heap.size wr W) => clos_any p s w.heap.size w24.heap.size a10 c10 F W ((ll.out s hs).mono (below2 hb h)).ok (gp2.mono h) (gW2.mono h) (sl2.mono h) hFW (hok.out s hs)
            have c1 := cc ls (by simp)
            have c2 := cc eq (by simp)
            have c3 := cc ze (by simp)
            have c4 := cc bo (by simp)
            have c5 := cc on (by simp)
            have c6 := cc nt (by simp)
            have c7 := cc pk (by simp)
            obtain ⟨va1, va2, va3, va4, va5, va6, va7⟩ := hval.out
            rw [va1] at c1
            rw [va2] at c2
            rw [va3] at c3
            rw [va4] at c4
            rw [va5] at c5
            rw [va6] at c6
            rw [va7] at c7
            replace hB := below2 hB hb
            clear cc va1 va2 va3 va4 va5 va6 va7 hval hok ll s7 gp gW sl10 gp2 gW2 sl2
            rw [show (if X = Y then (1 : Int) else 0) = tr (X == Y) by unfold tr; simp] at c2
            rw [show (if X = 0 then (1 : Int) else 0) = tr (X == 0) by unfold tr; simp] at c3
            rw [show (if X = Y then (0 : Int) else 1) = tr (X != Y) by unfold tr; by_cases h : X = Y <;> simp [h]] at c6
            clear M hle hAI hFW zu zv zls zeq zze zbo zon znt zpk hn hX hY hq1 bX bY eu ev hbl hFl hx2 hy2 hv' hp hnp hn6 hz hlt hk
            have cT := truth_any
            by_cases hq : X < Y
            · rw [if_pos hq] at c1
              rw [show (if X < Y ∧ X = 0 then (1 : Int) else 0) = tr (X == 0) by unfold tr; by_cases h : X = 0 <;> simp [h, hq]; omega] at c4
              rw [if_pos (Or.inl hq)] at c5
              rw [if_pos hq] at c7
              have b1 : decide (X < Y) = true := decide_eq_true hq
              have b5 : min X Y = X := by omega
              replace c1 : ∀ W, Below wr.heap.size wr W → Calls Try.prog 51 #[.slice ls.ad ls.l.length ls.cap, .pointer (some ⟨w.heap.size, 0, none⟩), .pointer (some ⟨w24.heap.size, 0, none⟩)] W fun e w' => e = .returned (.int .u64 (tr true)) ∧ Below W.heap.size W w' := c1
              replace c5 : ∀ W, Below wr.heap.size wr W → Calls Try.prog 51 #[.slice on.ad on.l.length on.cap, .pointer (some ⟨w.heap.size, 0, none⟩), .pointer (some ⟨w24.heap.size, 0, none⟩)] W fun e w' => e = .returned (.int .u64 (tr true)) ∧ Below W.heap.size W w' := c5
              generalize tr = TR at *
              replace hq := hide hq
              go_wp2_with fail
              refine (c1 wr (Below.refl _ _)).mono ?_
              rintro e y1 ⟨rfl, hy1⟩
              have gy1 := hy1
              go_wp2_with fail
              refine (cT _ _).mono ?_
              rintro e y2 ⟨rfl, hy2⟩
              have gy2 := below2 gy1 hy2
              clear hy1 hy2 c1
              go_wp2_with fail
              refine (c2 y2 gy2).mono ?_
              rintro e y3 ⟨rfl, hy3⟩
              have gy3 := below2 gy2 hy3
              go_wp2_with fail
              refine (cT _ _).mono ?_
              rintro e y4 ⟨rfl, hy4⟩
              have gy4 := below2 gy3 hy4
              clear hy3 hy4 c2
              go_wp2_with fail
              refine (c3 y4 gy4).mono ?_
              rintro e y5 ⟨rfl, hy5⟩
              have gy5 := below2 gy4 hy5
              go_wp2_with fail
              refine (cT _ _).mono ?_
              rintro e y6 ⟨rfl, hy6⟩
              have gy6 := below2 gy5 hy6
              clear hy5 hy6 c3
              go_wp2_with fail
              refine (c4 y6 gy6).mono ?_
              rintro e y7 ⟨rfl, hy7⟩
              have gy7 := below2 gy6 hy7
              go_wp2_with fail
              refine (cT _ _).mono ?_
              rintro e y8 ⟨rfl, hy8⟩
              have gy8 := below2 gy7 hy8
              clear hy7 hy8 c4
              go_wp2_with fail
              refine (c5 y8 gy8).mono ?_
              rintro e y9 ⟨rfl, hy9⟩
              have gy9 := below2 gy8 hy9
              go_wp2_with fail
              refine (cT _ _).mono ?_
              rintro e y10 ⟨rfl, hy10⟩
              have gy10 := below2 gy9 hy10
              clear hy9 hy10 c5
              go_wp2_with fail
              refine (c6 y10 gy10).mono ?_
              rintro e y11 ⟨rfl, hy11⟩
              have gy11 := below2 gy10 hy11
              go_wp2_with fail
              refine (cT _ _).mono ?_
              rintro e y12 ⟨rfl, hy12⟩
              have gy12 := below2 gy11 hy12
              clear hy11 hy12 c6
              go_wp2_with fail
              refine (c7 y12 gy12).mono ?_
              rintro e y13 ⟨rfl, hy13⟩
              have gy13 := below2 gy12 hy13
              go_wp2
              go_ret
              exact ⟨rfl, below2 hB gy13⟩
            · rw [if_neg hq] at c1
              rw [if_neg (fun h => hq h.1)] at c4
              rw [show (if X < Y ∨ X = 0 then (1 : Int) else 0) = tr (X == 0) by unfold tr; by_cases h : X = 0 <;> simp [h, hq]] at c5
              rw [if_neg hq] at c7
              have b1 : decide (X < Y) = false := decide_eq_false hq
              have b5 : min X Y = Y := by omega
              replace c1 : ∀ W, Below wr.heap.size wr W → Calls Try.prog 51 #[.slice ls.ad ls.l.length ls.cap, .pointer (some ⟨w.heap.size, 0, none⟩), .pointer (some ⟨w24.heap.size, 0, none⟩)] W fun e w' => e = .returned (.int .u64 (tr false)) ∧ Below W.heap.size W w' := c1
              replace c4 : ∀ W, Below wr.heap.size wr W → Calls Try.prog 51 #[.slice bo.ad bo.l.length bo.cap, .pointer (some ⟨w.heap.size, 0, none⟩), .pointer (some ⟨w24.heap.size, 0, none⟩)] W fun e w' => e = .returned (.int .u64 (tr false)) ∧ Below W.heap.size W w' := c4
              generalize tr = TR at *
              replace hq := hide hq
              go_wp2_with fail
              refine (c1 wr (Below.refl _ _)).mono ?_
              rintro e y1 ⟨rfl, hy1⟩
              have gy1 := hy1
              go_wp2_with fail
              refine (cT _ _).mono ?_
              rintro e y2 ⟨rfl, hy2⟩
              have gy2 := below2 gy1 hy2
              clear hy1 hy2 c1
              go_wp2_with fail
              refine (c2 y2 gy2).mono ?_
              rintro e y3 ⟨rfl, hy3⟩
              have gy3 := below2 gy2 hy3
              go_wp2_with fail
              refine (cT _ _).mono ?_
              rintro e y4 ⟨rfl, hy4⟩
              have gy4 := below2 gy3 hy4
              clear hy3 hy4 c2
              go_wp2_with fail
              refine (c3 y4 gy4).mono ?_
              rintro e y5 ⟨rfl, hy5⟩
              have gy5 := below2 gy4 hy5
              go_wp2_with fail
              refine (cT _ _).mono ?_
              rintro e y6 ⟨rfl, hy6⟩
              have gy6 := below2 gy5 hy6
              clear hy5 hy6 c3
              go_wp2_with fail
              refine (c4 y6 gy6).mono ?_
              rintro e y7 ⟨rfl, hy7⟩
              have gy7 := below2 gy6 hy7
              go_wp2_with fail
              refine (cT _ _).mono ?_
              rintro e y8 ⟨rfl, hy8⟩
              have gy8 := below2 gy7 hy8
              clear hy7 hy8 c4
              go_wp2_with fail
              refine (c5 y8 gy8).mono ?_
              rintro e y9 ⟨rfl, hy9⟩
              have gy9 := below2 gy8 hy9
              go_wp2_with fail
              refine (cT _ _).mono ?_
              rintro e y10 ⟨rfl, hy10⟩
              have gy10 := below2 gy9 hy10
              clear hy9 hy10 c5
              go_wp2_with fail
              refine (c6 y10 gy10).mono ?_
              rintro e y11 ⟨rfl, hy11⟩
              have gy11 := below2 gy10 hy11
              go_wp2_with fail
              refine (cT _ _).mono ?_
              rintro e y12 ⟨rfl, hy12⟩
              have gy12 := below2 gy11 hy12
              clear hy11 hy12 c6
              go_wp2_with fail
              refine (c7 y12 gy12).mono ?_
              rintro e y13 ⟨rfl, hy13⟩
              have gy13 := below2 gy12 hy13
              go_wp2
              go_ret
              exact ⟨rfl, below2 hB gy13⟩

set_option maxRecDepth 100000 in
theorem lifted (os : Os) (started : os.Started) (H : Type) (enc : TypeId × Value → H) :
    ReturnsInHanded {} Try.checked os 7 .any (Rows.gadgetMeaningSpec.pre6 enc Try.prog Try.f7 Rows.gadgetMeaningRow.domain false) (Rows.gadgetMeaningSpec.post enc Try.prog Try.f7 false true false false) := by
  refine returnsInHanded_of_change (C := Try.checked) own started (by kernel_rfl) Try.func7
    (ChangeSpec.witness6 (enc := enc) (C := Try.checked) false ⟨#[], #[.int .u64 0, .int .u64 0, .int .u64 0], []⟩ 8 (by kernel_rfl) (by kernel_rfl) (by kernel_rfl) (by kernel_rfl)) ?_
  intro W base args ds gs before hval0 hW hcnd _
  have hval : ∀ (j : Nat) t v, Try.f7.params[j]? = some t → args[j]? = some v → Value.okWide Try.prog W .any base t v := hval0
  have hW' := hW
  obtain ⟨p, q, hA0, hV, rfl, hfz, hnd⟩ := hW
  have hA : DataW.TrodAll enc Try.prog W 0 (fun _ => true) true Try.f7.params.toList args.toList ds p := hA0
  rw [Try.params7] at hA hval
  obtain ⟨v0, vs0, d0, ds0, p0, q0, hargs, rfl, rfl, h0, r0⟩ := trodAll_cons hA
  obtain ⟨v1, vs1, d1, ds1, p1, q1, rfl, rfl, rfl, h1, r1⟩ := trodAll_cons r0
  obtain ⟨v2, vs2, d2, ds2, p2, q2, rfl, rfl, rfl, h2, r2⟩ := trodAll_cons r1
  obtain ⟨rfl, rfl, rfl⟩ := trodAll_nil r2
  obtain rfl : args = #[v0, v1, v2] := by cases args; simp_all
  obtain ⟨rfl, rfl⟩ := trodVars_none hV
  obtain ⟨a0, rfl, rfl, rfl, w0⟩ := open_int Try.underlying22 (hval 0 22 v0 rfl rfl) h0
  obtain ⟨a1, rfl, rfl, rfl, w1⟩ := open_int Try.underlying22 (hval 1 22 v1 rfl rfl) h1
  obtain ⟨a2, rfl, rfl, rfl, w2⟩ := open_int Try.underlying22 (hval 2 22 v2 rfl rfl) h2
  clear hA0 hval0
  simp only [List.append_nil] at hW'
  refine (walk a0 a1 a2 W w0 w1 w2).mono fun e W' ⟨he, hg⟩ => ?_
  subst he
  exact ⟨_, rfl, post_of_below (pv := []) hW' (fun _ _ _ => (trodAll_cons_mk (shut_bool Try.underlying4 _) trodAll_mk0))
    (fun sp _ hsp => by subst hsp; exact (trodAll_cons_mk (shut_int Try.underlying22 w0) (trodAll_cons_mk (shut_int Try.underlying22 w1) (trodAll_cons_mk (shut_int Try.underlying22 w2) trodAll_mk0)))) (fun _ _ => rfl) (by simp) hg⟩

theorem closed : joinedFacts Try.prog 7 Try.f7 Rows.gadgetMeaningSpec Rows.gadgetMeaningRow = true := by
  unfold joinedFacts
  rw [Try.mayEnter, Try.liftsFinal, Try.make]
  kernel_rfl

theorem proved : Rows.GadgetMeaningSaid :=
  OpenClaim.holds_of_wide 7 Try.f7 rfl rfl rfl rfl rfl rfl rfl ⟨rfl, rfl, rfl, rfl, rfl⟩ rfl rfl rfl rfl rfl (by kernel_rfl) Try.func7 closed
    (of_decide_eq_true (by kernel_rfl)) (by unfold Func.isWrapper; first | (rw [if_pos (by decide +kernel)]; kernel_rfl) | (rw [if_neg (by decide +kernel)]; exact ⟨rfl, rfl⟩))
    (fun os started H enc _ => lifted os started H enc)
#print axioms proved
end gadgetMeaning
end Go.Proofs.Ytlgjnidphldiiaa
