/- Gadgets: Same of two circuits that are equal. -/
import Derived.Test.YtlgjnidphldiiaaGadQR
import Derived.Test.YtlgjnidphldiiaaGm
import Derived.Deep.RegionHeld3
namespace Go.Proofs.Ytlgjnidphldiiaa
open Go.RowKit

theorem SameLinT_any (x y : Lc) (w : World) (hx : LcOk w x) (hy : LcOk w y) (lx : x.l.length ≤ 1000000000) (e : x.l = y.l) :
    Calls Try.prog 19 #[.slice x.ad x.l.length x.cap, .slice y.ad y.l.length y.cap] w fun e w' => e = .returned (.bool true) ∧ Below w.heap.size w w' := by
  have := SameLin_any x y w hx hy lx
  rw [decide_eq_true e] at this
  exact this
/-- The state of Same: two circuits in two blocks. -/
structure SC (w wr : World) (p pub vars sec : Int) (ra : Option Addr) (n rc : Nat) (ha : Option Addr) (m hc : Nat) (ra' : Option Addr) (rc' : Nat) (ha' : Option Addr) (hc' : Nat) (R R' : List Rw) (H H' : List Hn) : Prop where
  below : Below w.heap.size w wr
  g1 : Blk wr w.heap.size #[.int .u64 p, .int .i64 pub, .int .i64 vars, .slice ra n rc, .int .i64 sec, .slice ha m hc] 37
  g2 : Blk wr (w.heap.size + 1) #[.int .u64 p, .int .i64 pub, .int .i64 vars, .slice ra' n rc', .int .i64 sec, .slice ha' m hc'] 37
  r1 : RowsP wr ra rc R
  r2 : RowsP wr ra' rc' R'
  h1 : HintsP wr ha hc H
  h2 : HintsP wr ha' hc' H'
theorem SC.mono {w wr w' : World} {p pub vars sec : Int} {ra : Option Addr} {n rc : Nat} {ha : Option Addr} {m hc : Nat} {ra' : Option Addr} {rc' : Nat} {ha' : Option Addr} {hc' : Nat} {R R' : List Rw} {H H' : List Hn}
    (h : SC w wr p pub vars sec ra n rc ha m hc ra' rc' ha' hc' R R' H H') (hb : Below wr.heap.size wr w') : SC w w' p pub vars sec ra n rc ha m hc ra' rc' ha' hc' R R' H H' :=
  ⟨below2 h.below hb, h.g1.mono hb, h.g2.mono hb, h.r1.mono hb, h.r2.mono hb, h.h1.mono hb, h.h2.mono hb⟩

set_option maxRecDepth 10000 in
set_option maxHeartbeats 16000000 in
theorem rSameT_any (p pub vars sec : Int) (ra : Option Addr) (n rc : Nat) (ha : Option Addr) (m hc : Nat) (ra' : Option Addr) (rc' : Nat) (ha' : Option Addr) (hc' : Nat) (R R' : List Rw) (H H' : List Hn) (w : World)
    (r1 : RowsP w ra rc R) (r2 : RowsP w ra' rc' R') (h1 : HintsP w ha hc H) (h2 : HintsP w ha' hc' H') (eR : R.map Rw.val = R'.map Rw.val) (eH : H.map Hn.val = H'.map Hn.val) (eN : R.length = n) (eM : H.length = m) (hn : n ≤ 100000) (hm : m ≤ 100000)
    (sR : ∀ r ∈ R, r.a.l.length ≤ 1000000000 ∧ r.b.l.length ≤ 1000000000 ∧ r.c.l.length ≤ 1000000000) (sH : ∀ r ∈ H, r.a.l.length ≤ 1000000000 ∧ r.b.l.length ≤ 1000000000) :
    Calls Try.prog 17 #[.agg #[.int .u64 p, .int .i64 pub, .int .i64 vars, .slice ra n rc, .int .i64 sec, .slice ha m hc], .agg #[.int .u64 p, .int .i64 pub, .int .i64 vars, .slice ra' n rc', .int .i64 sec, .slice ha' m hc']] w fun e w' => e = .returned (.bool true) ∧ Below w.heap.size w w' := by
  have lR : R'.length = n := by have := congrArg List.length eR; rw [List.length_map, List.length_map] at this; omega
  have lH : H'.length = m := by have := congrArg List.length eH; rw [List.length_map, List.length_map] at this; omega
  have hRow : ∀ i, i < n → (R.getD i default).a.l = (R'.getD i default).a.l ∧ (R.getD i default).b.l = (R'.getD i default).b.l ∧ (R.getD i default).c.l = (R'.getD i default).c.l := fun i hi => by
    have h1 := getD_map' Rw.val R i default ⟨[], [], []⟩ (by omega)
    have h2 := getD_map' Rw.val R' i default ⟨[], [], []⟩ (by omega)
    rw [eR, h2] at h1
    exact ⟨(congrArg Row3.a h1).symm, (congrArg Row3.b h1).symm, (congrArg Row3.c h1).symm⟩
  have hHin : ∀ i, i < m → (H.getD i default).k = (H'.getD i default).k ∧ (H.getD i default).a.l = (H'.getD i default).a.l ∧ (H.getD i default).b.l = (H'.getD i default).b.l ∧ (H.getD i default).bit = (H'.getD i default).bit := fun i hi => by
    have h1 := getD_map' Hn.val H i default ⟨0, [], [], 0⟩ (by omega)
    have h2 := getD_map' Hn.val H' i default ⟨0, [], [], 0⟩ (by omega)
    rw [eH, h2] at h1
    exact ⟨(congrArg Hint4.k h1).symm, (congrArg Hint4.a h1).symm, (congrArg Hint4.b h1).symm, (congrArg Hint4.bit h1).symm⟩
  have hRL : ∀ i, i < n → i < R.length ∧ i < R'.length := fun i hi => ⟨by omega, by omega⟩
  have hHL : ∀ i, i < m → i < H.length ∧ i < H'.length := fun i hi => ⟨by omega, by omega⟩
  replace hRow := hide hRow
  replace hHin := hide hHin
  replace hRL := hide hRL
  replace hHL := hide hHL
  replace sR := hide sR
  replace sH := hide sH
  clear eR eH eN eM lR lH
  go_enter Try.func17, Try.ntmps17
  go_wp2_with fail
  refine name_world fun w2 hN => ?_
  have hB : Below w.heap.size w w2 := by rw [hN]; exact ((Below.refl _ _).alloc (Nat.le_refl _) _).alloc (by simp) _
  have D0 : SC w w2 p pub vars sec ra n rc ha m hc ra' rc' ha' hc' R R' H H' := ⟨hB, by rw [hN]; exact (Blk.newAt rfl).alloc _, by rw [hN]; exact Blk.newAt (by simp), r1.mono hB, r2.mono hB, h1.mono hB, h2.mono hB⟩
  clear hN hB r1 r2 h1 h2
  go_loopw [5] (fun t5 wr => ∃ i : Nat, i ≤ n ∧ t5 = .int .i64 i ∧ SC w wr p pub vars sec ra n rc ha m hc ra' rc' ha' hc' R R' H H') (fun t5 _ => n - (intOf t5).toNat)
  case atStart => exact ⟨0, Nat.zero_le _, rfl, D0⟩
  case round =>
    clear D0
    obtain ⟨i, hi, rfl, D⟩ := hrel
    by_cases hlt : i < n
    · have hlt' : (i : Int) < n := by omega
      obtain ⟨i1, i2⟩ := hRL.out i hlt
      obtain ⟨q1, o1, rfl, _, c1⟩ := D.r1.s (by omega)
      obtain ⟨q2, o2, rfl, _, c2⟩ := D.r2.s (by omega)
      obtain ⟨a1, a2, a3⟩ := c1 i i1
      obtain ⟨b1, b2, b3⟩ := c2 i i2
      obtain ⟨e1, e2, e3⟩ := hRow.out i hlt
      obtain ⟨s1, s2, s3⟩ := sR.out _ (getD_mem' i1 default)
      obtain ⟨o1', o2', o3'⟩ := D.r1.ok _ (getD_mem' i1 default)
      obtain ⟨p1, p2, p3⟩ := D.r2.ok _ (getD_mem' i2 default)
      generalize R.getD i default = r at *
      generalize R'.getD i default = r' at *
      have k3 := D.g1.cell (j := 3) (v := .slice (some ⟨q1, o1, none⟩) n rc) rfl
      have k3' := D.g2.cell (j := 3) (v := .slice (some ⟨q2, o2, none⟩) n rc') rfl
      have cs1 := fun W (hb : Below wr.heap.size wr W) => SameLinT_any r.a r'.a W (o1'.mono hb) (p1.mono hb) s1 e1
      have cs2 := fun W (hb : Below wr.heap.size wr W) => SameLinT_any r.b r'.b W (o2'.mono hb) (p2.mono hb) s2 e2
      have cs3 := fun W (hb : Below wr.heap.size wr W) => SameLinT_any r.c r'.c W (o3'.mono hb) (p3.mono hb) s3 e3
      clear e1 e2 e3 c1 c2 o1' o2' o3' p1 p2 p3 s1 s2 s3
      go_wp2_with fail
      go_region_held3 (fun W => W.cell? ⟨w.heap.size, 3, none⟩ = some (.slice (some ⟨q1, o1, none⟩) n rc) ∧ W.cell? ⟨w.heap.size + 1, 3, none⟩ = some (.slice (some ⟨q2, o2, none⟩) n rc') ∧ W.cell? ⟨q1, o1 + i * 3, none⟩ = some (.slice r.a.ad r.a.l.length r.a.cap) ∧ W.cell? ⟨q1, o1 + i * 3 + 1, none⟩ = some (.slice r.b.ad r.b.l.length r.b.cap) ∧ W.cell? ⟨q1, o1 + i * 3 + 2, none⟩ = some (.slice r.c.ad r.c.l.length r.c.cap) ∧ W.cell? ⟨q2, o2 + i * 3, none⟩ = some (.slice r'.a.ad r'.a.l.length r'.a.cap) ∧ W.cell? ⟨q2, o2 + i * 3 + 1, none⟩ = some (.slice r'.b.ad r'.b.l.length r'.b.cap) ∧ W.cell? ⟨q2, o2 + i * 3 + 2, none⟩ = some (.slice r'.c.ad r'.c.l.length r'.c.cap)) (go_keep) (fail)
      · have hb3 : Below wr.heap.size wr (((wr.alloc (.cells #[.slice r.a.ad r.a.l.length r.a.cap, .slice r.b.ad r.b.l.length r.b.cap, .slice r.c.ad r.c.l.length r.c.cap] 106)).alloc (.cells #[.slice r'.a.ad r'.a.l.length r'.a.cap, .slice r'.b.ad r'.b.l.length r'.b.cap, .slice r'.c.ad r'.c.l.length r'.c.cap] 106)).drew) := (((Below.refl _ _).alloc (Nat.le_refl _) _).alloc (by simp) _).drew
        have gA : Blk (((wr.alloc (.cells #[.slice r.a.ad r.a.l.length r.a.cap, .slice r.b.ad r.b.l.length r.b.cap, .slice r.c.ad r.c.l.length r.c.cap] 106)).alloc (.cells #[.slice r'.a.ad r'.a.l.length r'.a.cap, .slice r'.b.ad r'.b.l.length r'.b.cap, .slice r'.c.ad r'.c.l.length r'.c.cap] 106)).drew) wr.heap.size #[.slice r.a.ad r.a.l.length r.a.cap, .slice r.b.ad r.b.l.length r.b.cap, .slice r.c.ad r.c.l.length r.c.cap] 106 := (Blk.new wr _ _).alloc _
        have gB : Blk (((wr.alloc (.cells #[.slice r.a.ad r.a.l.length r.a.cap, .slice r.b.ad r.b.l.length r.b.cap, .slice r.c.ad r.c.l.length r.c.cap] 106)).alloc (.cells #[.slice r'.a.ad r'.a.l.length r'.a.cap, .slice r'.b.ad r'.b.l.length r'.b.cap, .slice r'.c.ad r'.c.l.length r'.c.cap] 106)).drew) (wr.heap.size + 1) #[.slice r'.a.ad r'.a.l.length r'.a.cap, .slice r'.b.ad r'.b.l.length r'.b.cap, .slice r'.c.ad r'.c.l.length r'.c.cap] 106 := Blk.newAt (w := wr.alloc (.cells #[.slice r.a.ad r.a.l.length r.a.cap, .slice r.b.ad r.b.l.length r.b.cap, .slice r.c.ad r.c.l.length r.c.cap] 106)) (by simp)
        generalize (((wr.alloc (.cells #[.slice r.a.ad r.a.l.length r.a.cap, .slice r.b.ad r.b.l.length r.b.cap, .slice r.c.ad r.c.l.length r.c.cap] 106)).alloc (.cells #[.slice r'.a.ad r'.a.l.length r'.a.cap, .slice r'.b.ad r'.b.l.length r'.b.cap, .slice r'.c.ad r'.c.l.length r'.c.cap] 106)).drew) = w3 at *
        replace D := D.mono hb3
        clear a1 a2 a3 b1 b2 b3 k3 k3'
        have m1 := gA.cell (j := 0) (v := .slice r.a.ad r.a.l.length r.a.cap) rfl
        have m2 := gB.cell (j := 0) (v := .slice r'.a.ad r'.a.l.length r'.a.cap) rfl
        go_wp2_with fail
        refine (cs1 w3 hb3).mono ?_
        rintro e w4 ⟨rfl, hc4⟩
        have hb4 := below2 hb3 hc4
        replace gA := gA.mono hc4
        replace gB := gB.mono hc4
        replace D := D.mono hc4
        clear m1 m2 hc4 cs1
        have m1 := gA.cell (j := 1) (v := .slice r.b.ad r.b.l.length r.b.cap) rfl
        have m2 := gB.cell (j := 1) (v := .slice r'.b.ad r'.b.l.length r'.b.cap) rfl
        go_wp2_with fail
        refine (cs2 w4 hb4).mono ?_
        rintro e w5 ⟨rfl, hc5⟩
        have hb5 := below2 hb4 hc5
        replace gA := gA.mono hc5
        replace gB := gB.mono hc5
        replace D := D.mono hc5
        clear m1 m2 hc5 cs2
        have m1 := gA.cell (j := 2) (v := .slice r.c.ad r.c.l.length r.c.cap) rfl
        have m2 := gB.cell (j := 2) (v := .slice r'.c.ad r'.c.l.length r'.c.cap) rfl
        go_wp2_with fail
        refine (cs3 w5 hb5).mono ?_
        rintro e w6 ⟨rfl, hc6⟩
        have hb6 := below2 hb5 hc6
        replace gA := gA.mono hc6
        replace gB := gB.mono hc6
        replace D := D.mono hc6
        clear m1 m2 hc6 cs3
        clear gA gB hb3 hb4 hb5 hb6
        go_wp2
        go_roundw
        case rel => exact ⟨i + 1, by omega, by go_num, D⟩
        case measure => simp [intOf]; omega
      · have hb3 : Below wr.heap.size wr (((wr.alloc (.cells #[.slice r'.a.ad r'.a.l.length r'.a.cap, .slice r'.b.ad r'.b.l.length r'.b.cap, .slice r'.c.ad r'.c.l.length r'.c.cap] 106)).alloc (.cells #[.slice r.a.ad r.a.l.length r.a.cap, .slice r.b.ad r.b.l.length r.b.cap, .slice r.c.ad r.c.l.length r.c.cap] 106)).drew) := (((Below.refl _ _).alloc (Nat.le_refl _) _).alloc (by simp) _).drew
        have gA : Blk (((wr.alloc (.cells #[.slice r'.a.ad r'.a.l.length r'.a.cap, .slice r'.b.ad r'.b.l.length r'.b.cap, .slice r'.c.ad r'.c.l.length r'.c.cap] 106)).alloc (.cells #[.slice r.a.ad r.a.l.length r.a.cap, .slice r.b.ad r.b.l.length r.b.cap, .slice r.c.ad r.c.l.length r.c.cap] 106)).drew) wr.heap.size #[.slice r'.a.ad r'.a.l.length r'.a.cap, .slice r'.b.ad r'.b.l.length r'.b.cap, .slice r'.c.ad r'.c.l.length r'.c.cap] 106 := (Blk.new wr _ _).alloc _
        have gB : Blk (((wr.alloc (.cells #[.slice r'.a.ad r'.a.l.length r'.a.cap, .slice r'.b.ad r'.b.l.length r'.b.cap, .slice r'.c.ad r'.c.l.length r'.c.cap] 106)).alloc (.cells #[.slice r.a.ad r.a.l.length r.a.cap, .slice r.b.ad r.b.l.length r.b.cap, .slice r.c.ad r.c.l.length r.c.cap] 106)).drew) (wr.heap.size + 1) #[.slice r.a.ad r.a.l.length r.a.cap, .slice r.b.ad r.b.l.length r.b.cap, .slice r.c.ad r.c.l.length r.c.cap] 106 := Blk.newAt (w := wr.alloc (.cells #[.slice r'.a.ad r'.a.l.length r'.a.cap, .slice r'.b.ad r'.b.l.length r'.b.cap, .slice r'.c.ad r'.c.l.length r'.c.cap] 106)) (by simp)
        generalize (((wr.alloc (.cells #[.slice r'.a.ad r'.a.l.length r'.a.cap, .slice r'.b.ad r'.b.l.length r'.b.cap, .slice r'.c.ad r'.c.l.length r'.c.cap] 106)).alloc (.cells #[.slice r.a.ad r.a.l.length r.a.cap, .slice r.b.ad r.b.l.length r.b.cap, .slice r.c.ad r.c.l.length r.c.cap] 106)).drew) = w3 at *
        replace D := D.mono hb3
        clear a1 a2 a3 b1 b2 b3 k3 k3'
        have m1 := gA.cell (j := 0) (v := .slice r'.a.ad r'.a.l.length r'.a.cap) rfl
        have m2 := gB.cell (j := 0) (v := .slice r.a.ad r.a.l.length r.a.cap) rfl
        go_wp2_with fail
        refine (cs1 w3 hb3).mono ?_
        rintro e w4 ⟨rfl, hc4⟩
        have hb4 := below2 hb3 hc4
        replace gA := gA.mono hc4
        replace gB := gB.mono hc4
        replace D := D.mono hc4
        clear m1 m2 hc4 cs1
        have m1 := gA.cell (j := 1) (v := .slice r'.b.ad r'.b.l.length r'.b.cap) rfl
        have m2 := gB.cell (j := 1) (v := .slice r.b.ad r.b.l.length r.b.cap) rfl
        go_wp2_with fail
        refine (cs2 w4 hb4).mono ?_
        rintro e w5 ⟨rfl, hc5⟩
        have hb5 := below2 hb4 hc5
        replace gA := gA.mono hc5
        replace gB := gB.mono hc5
        replace D := D.mono hc5
        clear m1 m2 hc5 cs2
        have m1 := gA.cell (j := 2) (v := .slice r'.c.ad r'.c.l.length r'.c.cap) rfl
        have m2 := gB.cell (j := 2) (v := .slice r.c.ad r.c.l.length r.c.cap) rfl
        go_wp2_with fail
        refine (cs3 w5 hb5).mono ?_
        rintro e w6 ⟨rfl, hc6⟩
        have hb6 := below2 hb5 hc6
        replace gA := gA.mono hc6
        replace gB := gB.mono hc6
        replace D := D.mono hc6
        clear m1 m2 hc6 cs3
        clear gA gB hb3 hb4 hb5 hb6
        go_wp2
        go_roundw
        case rel => exact ⟨i + 1, by omega, by go_num, D⟩
        case measure => simp [intOf]; omega
    · obtain rfl : i = n := by omega
      have k3 := D.g1.cell (j := 3) (v := .slice ra i rc) rfl
      go_wp2_with fail
      obtain ⟨wA, hwA⟩ : ∃ wA, wA = wr := ⟨_, rfl⟩
      subst hwA
      go_loopw [8] (fun t8 wr => ∃ j : Nat, j ≤ m ∧ t8 = .int .i64 j ∧ SC w wr p pub vars sec ra i rc ha m hc ra' rc' ha' hc' R R' H H') (fun t8 _ => m - (intOf t8).toNat)
      case atStart => exact ⟨0, Nat.zero_le _, rfl, D⟩
      case round =>
        clear D k3
        obtain ⟨j, hj, rfl, D⟩ := hrel
        have k5 := D.g1.cell (j := 5) (v := .slice ha m hc) rfl
        by_cases hlt : j < m
        · have hlt' : (j : Int) < m := by omega
          obtain ⟨i1, i2⟩ := hHL.out j hlt
          obtain ⟨q1, o1, rfl, _, c1⟩ := D.h1.s (by omega)
          obtain ⟨q2, o2, rfl, _, c2⟩ := D.h2.s (by omega)
          obtain ⟨a0, a1, a2, a3⟩ := c1 j i1
          obtain ⟨b0, b1, b2, b3⟩ := c2 j i2
          obtain ⟨e0, e1, e2, e3⟩ := hHin.out j hlt
          obtain ⟨s1, s2⟩ := sH.out _ (getD_mem' i1 default)
          obtain ⟨o1', o2', _, _⟩ := D.h1.ok _ (getD_mem' i1 default)
          obtain ⟨p1, p2, _, _⟩ := D.h2.ok _ (getD_mem' i2 default)
          generalize H.getD j default = r at *
          generalize H'.getD j default = r' at *
          rw [← e0] at b0
          rw [← e3] at b3
          have k5' := D.g2.cell (j := 5) (v := .slice (some ⟨q2, o2, none⟩) m hc') rfl
          have cs1 := fun W (hb : Below wr.heap.size wr W) => SameLinT_any r.a r'.a W (o1'.mono hb) (p1.mono hb) s1 e1
          have cs2 := fun W (hb : Below wr.heap.size wr W) => SameLinT_any r.b r'.b W (o2'.mono hb) (p2.mono hb) s2 e2
          clear e0 e1 e2 e3 c1 c2 o1' o2' p1 p2 s1 s2
          go_wp2_with fail
          go_region_held3 (fun W => W.cell? ⟨w.heap.size, 5, none⟩ = some (.slice (some ⟨q1, o1, none⟩) m hc) ∧ W.cell? ⟨w.heap.size + 1, 5, none⟩ = some (.slice (some ⟨q2, o2, none⟩) m hc') ∧ W.cell? ⟨q1, o1 + j * 4, none⟩ = some (.int .i64 r.k) ∧ W.cell? ⟨q1, o1 + j * 4 + 1, none⟩ = some (.slice r.a.ad r.a.l.length r.a.cap) ∧ W.cell? ⟨q1, o1 + j * 4 + 2, none⟩ = some (.slice r.b.ad r.b.l.length r.b.cap) ∧ W.cell? ⟨q1, o1 + j * 4 + 3, none⟩ = some (.int .i64 r.bit) ∧ W.cell? ⟨q2, o2 + j * 4, none⟩ = some (.int .i64 r.k) ∧ W.cell? ⟨q2, o2 + j * 4 + 1, none⟩ = some (.slice r'.a.ad r'.a.l.length r'.a.cap) ∧ W.cell? ⟨q2, o2 + j * 4 + 2, none⟩ = some (.slice r'.b.ad r'.b.l.length r'.b.cap) ∧ W.cell? ⟨q2, o2 + j * 4 + 3, none⟩ = some (.int .i64 r.bit)) (go_keep) (fail)
          · have hb3 : Below wr.heap.size wr (((wr.alloc (.cells #[.int .i64 r.k, .slice r.a.ad r.a.l.length r.a.cap, .slice r.b.ad r.b.l.length r.b.cap, .int .i64 r.bit] 108)).alloc (.cells #[.int .i64 r.k, .slice r'.a.ad r'.a.l.length r'.a.cap, .slice r'.b.ad r'.b.l.length r'.b.cap, .int .i64 r.bit] 108)).drew) := (((Below.refl _ _).alloc (Nat.le_refl _) _).alloc (by simp) _).drew
            have gA : Blk (((wr.alloc (.cells #[.int .i64 r.k, .slice r.a.ad r.a.l.length r.a.cap, .slice r.b.ad r.b.l.length r.b.cap, .int .i64 r.bit] 108)).alloc (.cells #[.int .i64 r.k, .slice r'.a.ad r'.a.l.length r'.a.cap, .slice r'.b.ad r'.b.l.length r'.b.cap, .int .i64 r.bit] 108)).drew) wr.heap.size #[.int .i64 r.k, .slice r.a.ad r.a.l.length r.a.cap, .slice r.b.ad r.b.l.length r.b.cap, .int .i64 r.bit] 108 := (Blk.new wr _ _).alloc _
            have gB : Blk (((wr.alloc (.cells #[.int .i64 r.k, .slice r.a.ad r.a.l.length r.a.cap, .slice r.b.ad r.b.l.length r.b.cap, .int .i64 r.bit] 108)).alloc (.cells #[.int .i64 r.k, .slice r'.a.ad r'.a.l.length r'.a.cap, .slice r'.b.ad r'.b.l.length r'.b.cap, .int .i64 r.bit] 108)).drew) (wr.heap.size + 1) #[.int .i64 r.k, .slice r'.a.ad r'.a.l.length r'.a.cap, .slice r'.b.ad r'.b.l.length r'.b.cap, .int .i64 r.bit] 108 := Blk.newAt (w := wr.alloc (.cells #[.int .i64 r.k, .slice r.a.ad r.a.l.length r.a.cap, .slice r.b.ad r.b.l.length r.b.cap, .int .i64 r.bit] 108)) (by simp)
            generalize (((wr.alloc (.cells #[.int .i64 r.k, .slice r.a.ad r.a.l.length r.a.cap, .slice r.b.ad r.b.l.length r.b.cap, .int .i64 r.bit] 108)).alloc (.cells #[.int .i64 r.k, .slice r'.a.ad r'.a.l.length r'.a.cap, .slice r'.b.ad r'.b.l.length r'.b.cap, .int .i64 r.bit] 108)).drew) = w3 at *
            replace D := D.mono hb3
            clear a0 a1 a2 a3 b0 b1 b2 b3 k5 k5'
            have m0 := gA.cell (j := 0) (v := .int .i64 r.k) rfl
            have m0' := gB.cell (j := 0) (v := .int .i64 r.k) rfl
            have m3 := gA.cell (j := 3) (v := .int .i64 r.bit) rfl
            have m3' := gB.cell (j := 3) (v := .int .i64 r.bit) rfl
            have m1 := gA.cell (j := 1) (v := .slice r.a.ad r.a.l.length r.a.cap) rfl
            have m2 := gB.cell (j := 1) (v := .slice r'.a.ad r'.a.l.length r'.a.cap) rfl
            go_wp2_with fail
            refine (cs1 w3 hb3).mono ?_
            rintro e w4 ⟨rfl, hc4⟩
            have hb4 := below2 hb3 hc4
            replace gA := gA.mono hc4
            replace gB := gB.mono hc4
            replace D := D.mono hc4
            clear m1 m2 hc4 cs1
            clear m0 m0' m3 m3'
            have m1 := gA.cell (j := 2) (v := .slice r.b.ad r.b.l.length r.b.cap) rfl
            have m2 := gB.cell (j := 2) (v := .slice r'.b.ad r'.b.l.length r'.b.cap) rfl
            go_wp2_with fail
            refine (cs2 w4 hb4).mono ?_
            rintro e w5 ⟨rfl, hc5⟩
            have hb5 := below2 hb4 hc5
            replace gA := gA.mono hc5
            replace gB := gB.mono hc5
            replace D := D.mono hc5
            clear m1 m2 hc5 cs2
            clear gA gB hb3 hb4 hb5
            go_wp2
            go_roundw
            case rel => exact ⟨j + 1, by omega, by go_num, D⟩
            case measure => simp [intOf]; omega
          · have hb3 : Below wr.heap.size wr (((wr.alloc (.cells #[.int .i64 r.k, .slice r'.a.ad r'.a.l.length r'.a.cap, .slice r'.b.ad r'.b.l.length r'.b.cap, .int .i64 r.bit] 108)).alloc (.cells #[.int .i64 r.k, .slice r.a.ad r.a.l.length r.a.cap, .slice r.b.ad r.b.l.length r.b.cap, .int .i64 r.bit] 108)).drew) := (((Below.refl _ _).alloc (Nat.le_refl _) _).alloc (by simp) _).drew
            have gA : Blk (((wr.alloc (.cells #[.int .i64 r.k, .slice r'.a.ad r'.a.l.length r'.a.cap, .slice r'.b.ad r'.b.l.length r'.b.cap, .int .i64 r.bit] 108)).alloc (.cells #[.int .i64 r.k, .slice r.a.ad r.a.l.length r.a.cap, .slice r.b.ad r.b.l.length r.b.cap, .int .i64 r.bit] 108)).drew) wr.heap.size #[.int .i64 r.k, .slice r'.a.ad r'.a.l.length r'.a.cap, .slice r'.b.ad r'.b.l.length r'.b.cap, .int .i64 r.bit] 108 := (Blk.new wr _ _).alloc _
            have gB : Blk (((wr.alloc (.cells #[.int .i64 r.k, .slice r'.a.ad r'.a.l.length r'.a.cap, .slice r'.b.ad r'.b.l.length r'.b.cap, .int .i64 r.bit] 108)).alloc (.cells #[.int .i64 r.k, .slice r.a.ad r.a.l.length r.a.cap, .slice r.b.ad r.b.l.length r.b.cap, .int .i64 r.bit] 108)).drew) (wr.heap.size + 1) #[.int .i64 r.k, .slice r.a.ad r.a.l.length r.a.cap, .slice r.b.ad r.b.l.length r.b.cap, .int .i64 r.bit] 108 := Blk.newAt (w := wr.alloc (.cells #[.int .i64 r.k, .slice r'.a.ad r'.a.l.length r'.a.cap, .slice r'.b.ad r'.b.l.length r'.b.cap, .int .i64 r.bit] 108)) (by simp)
            generalize (((wr.alloc (.cells #[.int .i64 r.k, .slice r'.a.ad r'.a.l.length r'.a.cap, .slice r'.b.ad r'.b.l.length r'.b.cap, .int .i64 r.bit] 108)).alloc (.cells #[.int .i64 r.k, .slice r.a.ad r.a.l.length r.a.cap, .slice r.b.ad r.b.l.length r.b.cap, .int .i64 r.bit] 108)).drew) = w3 at *
            replace D := D.mono hb3
            clear a0 a1 a2 a3 b0 b1 b2 b3 k5 k5'
            have m0 := gA.cell (j := 0) (v := .int .i64 r.k) rfl
            have m0' := gB.cell (j := 0) (v := .int .i64 r.k) rfl
            have m3 := gA.cell (j := 3) (v := .int .i64 r.bit) rfl
            have m3' := gB.cell (j := 3) (v := .int .i64 r.bit) rfl
            have m1 := gA.cell (j := 1) (v := .slice r'.a.ad r'.a.l.length r'.a.cap) rfl
            have m2 := gB.cell (j := 1) (v := .slice r.a.ad r.a.l.length r.a.cap) rfl
            go_wp2_with fail
            refine (cs1 w3 hb3).mono ?_
            rintro e w4 ⟨rfl, hc4⟩
            have hb4 := below2 hb3 hc4
            replace gA := gA.mono hc4
            replace gB := gB.mono hc4
            replace D := D.mono hc4
            clear m1 m2 hc4 cs1
            clear m0 m0' m3 m3'
            have m1 := gA.cell (j := 2) (v := .slice r'.b.ad r'.b.l.length r'.b.cap) rfl
            have m2 := gB.cell (j := 2) (v := .slice r.b.ad r.b.l.length r.b.cap) rfl
            go_wp2_with fail
            refine (cs2 w4 hb4).mono ?_
            rintro e w5 ⟨rfl, hc5⟩
            have hb5 := below2 hb4 hc5
            replace gA := gA.mono hc5
            replace gB := gB.mono hc5
            replace D := D.mono hc5
            clear m1 m2 hc5 cs2
            clear gA gB hb3 hb4 hb5
            go_wp2
            go_roundw
            case rel => exact ⟨j + 1, by omega, by go_num, D⟩
            case measure => simp [intOf]; omega
        · obtain rfl : j = m := by omega
          go_wp2
          go_ret
          exact ⟨rfl, D.below⟩
end Go.Proofs.Ytlgjnidphldiiaa
