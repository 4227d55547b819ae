/- Programs as data; ast: names, types, expressions. -/
import Derived.Test.YtalmgeefkcebdaaGreatDoorQ18
namespace Go.Proofs.YtalmgeefkcebdaaGreatDoor
open Go.RowKit

/-- A name that is no keyword. -/
structure NmOk (s : ByteArray) : Prop where
  ne : s.toList.isEmpty = false
  pos : 0 < s.size
  le : s.size ≤ 24
  let_ : ∀ h : 0 < s.size, isL (s[0].toNat : Int) = true
  span : spanN s.data.toList = s.size
  kw : decide (0 ≤ idxS kwL s 0) = false
set_option maxHeartbeats 4000000 in
theorem IsName_any (s : ByteArray) (h : NmOk s) (w : World) : Calls Tryz.prog 182 #[.string s] w fun e w' => e = .returned (.bool true) ∧ Below w.heap.size w w' := by
  obtain ⟨h1, h2, h3, h4, h5, h6⟩ := h
  have cL := fun W => isLetter_any (s[0].toNat : Int) W
  rw [h4 h2] at cL
  have cS := fun W => span_any s W (by omega)
  rw [h5] at cS
  have cK := fun W b g => ContainsS_any b 17 17 kwL s W rfl (by decide) g
  rw [h6] at cK
  have h3I : ¬ (24 : Int) < s.size := by omega
  clear h4 h5 h6
  go_enter Tryz.func182, Tryz.ntmps182
  go_wp2_with fail
  refine (cL w).mono ?_
  rintro e w1 ⟨rfl, hb1⟩
  clear cL
  go_wp2_with fail
  refine (cS w1).mono ?_
  rintro e w2 ⟨rfl, hb2⟩
  clear cS
  go_wp2_with fail
  refine (Keywords_any w2).mono ?_
  rintro e w3 ⟨b, rfl, gK, hb3⟩
  go_wp2_with fail
  refine (cK w3 b gK).mono ?_
  rintro e w4 ⟨rfl, hb4⟩
  go_wp2
  go_ret
  exact ⟨rfl, below2 (below2 (below2 hb1 hb2) hb3) hb4⟩
theorem isType_any (w : World) : Calls Tryz.prog 185 #[.agg #[.int .i64 1, .int .i64 0, .int .i64 0]] w fun e w' => e = .returned (.bool true) ∧ Below w.heap.size w w' := by
  go_enter Tryz.func185, Tryz.ntmps185
  go_wp2
  go_ret
  exact ⟨rfl, (Below.refl _ _).alloc (Nat.le_refl _) _⟩
/-- A declaration: of an element. -/
def deV (b : Bool) (n : ByteArray) : Value := .agg #[.bool b, .string n, .int .i64 1, .int .i64 0, .int .i64 0]
set_option maxHeartbeats 4000000 in
theorem isDecl_any (b : Bool) (n : ByteArray) (h : NmOk n) (w : World) : Calls Tryz.prog 126 #[deV b n] w fun e w' => e = .returned (.bool true) ∧ Below w.heap.size w w' := by
  have cN := fun W => IsName_any n h W
  unfold deV
  clear h
  go_enter Tryz.func126, Tryz.ntmps126
  go_wp2_with fail
  refine name_calls fun W hN => ?_
  have gA : Blk W w.heap.size #[.bool b, .string n, .int .i64 1, .int .i64 0, .int .i64 0] 34 := by rw [hN]; exact Blk.newAt rfl
  have hB : Below w.heap.size w W := by rw [hN]; exact (Below.refl _ _).alloc (Nat.le_refl _) _
  clear hN
  refine (cN W).mono ?_
  rintro e w1 ⟨rfl, hb1⟩
  replace gA := gA.mono hb1
  replace hB := below2 hB hb1
  have a2 := gA.cell (j := 2) (v := .int .i64 1) rfl; have a3 := gA.cell (j := 3) (v := .int .i64 0) rfl; have a4 := gA.cell (j := 4) (v := .int .i64 0) rfl
  go_wp2_with fail
  refine (isType_any w1).mono ?_
  rintro e w2 ⟨rfl, hb2⟩
  go_wp2
  go_ret
  exact ⟨rfl, below2 hB hb2⟩

/-- The trees that are asked for. -/
def Tr.ok : Tr → Prop
  | .nm s => NmOk s
  | .bin op val l r => (op = 6 ∨ (op = 11 ∨ op = 14) ∧ val = 0) ∧ 0 ≤ val ∧ l.ok ∧ r.ok
def Tr.dep : Tr → Nat
  | .nm _ => 1
  | .bin _ _ l r => max l.dep r.dep + 1
set_option maxHeartbeats 4000000 in
theorem everyE0_any (w : World) : Calls Tryz.prog 213 #[.slice none 0 0, .func (.func 186) #[] #[]] w fun e w' => e = .returned (.bool true) ∧ Below w.heap.size w w' := by
  go_enter Tryz.func213, Tryz.ntmps213
  go_wp2_with fail
  go_loopw [9] (fun t9 wr => t9 = .int .i64 0 ∧ wr = w) (fun _ _ => 0)
  case atStart => exact ⟨rfl, rfl⟩
  case round =>
    obtain ⟨rfl, rfl⟩ := hrel
    go_wp2
    go_ret
    exact ⟨rfl, Below.refl _ _⟩
set_option maxRecDepth 10000 in
set_option maxHeartbeats 4000000 in
theorem everyE2_any (w : World) (b : Nat) (x y : Ev) (g : Blk w b #[.int .i64 x.op, .int .u64 x.val, .string x.nm, .slice x.ad x.n x.c, .int .i64 y.op, .int .u64 y.val, .string y.nm, .slice y.ad y.n y.c] 29)
    (hx : ∀ W, Below w.heap.size w W → Calls Tryz.prog 186 #[evV x] W fun e w' => e = .returned (.bool true) ∧ Below W.heap.size W w') (hy : ∀ W, Below w.heap.size w W → Calls Tryz.prog 186 #[evV y] W fun e w' => e = .returned (.bool true) ∧ Below W.heap.size W w') :
    Calls Tryz.prog 213 #[.slice (some ⟨b, 0, none⟩) 2 2, .func (.func 186) #[] #[]] w fun e w' => e = .returned (.bool true) ∧ Below w.heap.size w w' := by
  have hrefl := Below.refl w.heap.size w
  unfold evV at hx hy
  go_enter Tryz.func213, Tryz.ntmps213
  go_wp2_with fail
  go_loopw [9] (fun t9 wr => ∃ i : Nat, i ≤ 2 ∧ t9 = .int .i64 i ∧ Below w.heap.size w wr) (fun t9 _ => 2 - (intOf t9).toNat)
  case atStart => exact ⟨0, by omega, rfl, hrefl⟩
  case round =>
    clear hrefl
    obtain ⟨i, hi, rfl, hB⟩ := hrel
    have g' := g.mono hB
    rcases (show i = 0 ∨ i = 1 ∨ i = 2 by omega) with rfl | rfl | rfl
    · have c0 := g'.cell (j := 0) (v := .int .i64 x.op) rfl; have c1 := g'.cell (j := 1) (v := .int .u64 x.val) rfl; have c2 := g'.cell (j := 2) (v := .string x.nm) rfl; have c3 := g'.cell (j := 3) (v := .slice x.ad x.n x.c) rfl
      have hB1 : Below w.heap.size w (wr.alloc (.cells #[.int .i64 x.op, .int .u64 x.val, .string x.nm, .slice x.ad x.n x.c] 29)) := hB.alloc hB.size _
      go_wp2_with fail
      refine (hx _ hB1).mono ?_
      rintro e w2 ⟨rfl, hb2⟩
      have hB2 := below2 hB1 hb2
      clear c0 c1 c2 c3 g'
      go_wp2
      go_roundw
      case rel => exact ⟨1, by omega, rfl, hB2⟩
      case measure => simp [intOf]
    · have c0 := g'.cell (j := 4) (v := .int .i64 y.op) rfl; have c1 := g'.cell (j := 5) (v := .int .u64 y.val) rfl; have c2 := g'.cell (j := 6) (v := .string y.nm) rfl; have c3 := g'.cell (j := 7) (v := .slice y.ad y.n y.c) rfl
      have hB1 : Below w.heap.size w (wr.alloc (.cells #[.int .i64 y.op, .int .u64 y.val, .string y.nm, .slice y.ad y.n y.c] 29)) := hB.alloc hB.size _
      go_wp2_with fail
      refine (hy _ hB1).mono ?_
      rintro e w2 ⟨rfl, hb2⟩
      have hB2 := below2 hB1 hb2
      clear c0 c1 c2 c3 g'
      go_wp2
      go_roundw
      case rel => exact ⟨2, by omega, rfl, hB2⟩
      case measure => simp [intOf]
    · go_wp2
      go_ret
      exact ⟨rfl, hB⟩

set_option maxRecDepth 10000 in
set_option maxHeartbeats 16000000 in
theorem isExpr_any : ∀ (t : Tr), t.ok → ∀ (w : World) (P : Nat → Prop) (ev : Ev), Rep w P t ev → Calls Tryz.prog 186 #[evV ev] w fun e w' => e = .returned (.bool true) ∧ Below w.heap.size w w'
  | .nm s, hok, w, P, ev, hR => by
    have hR : ev = ⟨2, 0, s, none, 0, 0⟩ := hR
    subst hR
    have cN := fun W => IsName_any s hok W
    have hne := hok.ne
    unfold evV
    clear hok
    go_enter Tryz.func186, Tryz.ntmps186
    go_wp2_with fail
    refine name_calls fun W hN => ?_
    have gA : Blk W w.heap.size #[.int .i64 2, .int .u64 0, .string s, .slice none 0 0] 29 := by rw [hN]; exact Blk.newAt rfl
    have hB : Below w.heap.size w W := by rw [hN]; exact (Below.refl _ _).alloc (Nat.le_refl _) _
    clear hN
    refine (everyE0_any W).mono ?_
    rintro e w1 ⟨rfl, hb1⟩
    replace gA := gA.mono hb1
    replace hB := below2 hB hb1
    have a0 := cell_later' (gA.cell (j := 0) (v := .int .i64 2) rfl); have a1 := cell_later' (gA.cell (j := 1) (v := .int .u64 0) rfl); have a2 := cell_later' (gA.cell (j := 2) (v := .string s) rfl); have a3 := cell_later' (gA.cell (j := 3) (v := .slice none 0 0) rfl)
    go_wp2_with fail
    refine wp_region_later Tryz.mixed (by kernel_rfl) ?_
    repeat (first | go_big_quiet_step (first | fail) | quiet_step (first | fail))
    refine wpQuiet_nil ?_
    intro w3 hb3
    replace hb3 := below_of_later hb3
    replace gA := gA.mono hb3
    replace hB := below2 hB hb3
    clear a0 a1 a2 a3 hb3 hb1
    have a0 := gA.cell (j := 0) (v := .int .i64 2) rfl; have a1 := gA.cell (j := 1) (v := .int .u64 0) rfl; have a2 := gA.cell (j := 2) (v := .string s) rfl; have a3 := gA.cell (j := 3) (v := .slice none 0 0) rfl
    go_wp2_with fail
    refine (cN w3).mono ?_
    rintro e w4 ⟨rfl, hb4⟩
    replace hB := below2 hB hb4
    clear a0 a1 a2 a3 gA hb4
    go_wp2
    go_ret
    exact ⟨rfl, hB⟩
  | .bin op val l r, hok, w, P, ev, hR => by
    obtain ⟨b, x, y, rfl, _, g, hl, hr⟩ := hR
    obtain ⟨hop, hv0, okl, okr⟩ := hok
    have cE := fun W (hb : Below w.heap.size w W) => everyE2_any W b x y (g.mono hb) (fun W2 h2 => isExpr_any l okl W2 P x (hl.mono (below2 hb h2))) (fun W2 h2 => isExpr_any r okr W2 P y (hr.mono (below2 hb h2)))
    unfold evV
    clear okl okr hl hr g
    rcases hop with rfl | ⟨rfl | rfl, rfl⟩
    · go_enter Tryz.func186, Tryz.ntmps186
      go_wp2_with fail
      refine name_calls fun W hN => ?_
      have hB : Below w.heap.size w W := by rw [hN]; exact (Below.refl _ _).alloc (Nat.le_refl _) _
      have gA : Blk W w.heap.size #[.int .i64 6, .int .u64 val, .string ⟨#[]⟩, .slice (some ⟨b, 0, none⟩) 2 2] 29 := by rw [hN]; exact Blk.newAt rfl
      clear hN
      refine (cE W hB).mono ?_
      rintro e w1 ⟨rfl, hb1⟩
      replace gA := gA.mono hb1
      replace hB := below2 hB hb1
      have a0 := cell_later' (gA.cell (j := 0) (v := .int .i64 6) rfl); have a1 := cell_later' (gA.cell (j := 1) (v := .int .u64 val) rfl); have a2 := cell_later' (gA.cell (j := 2) (v := .string ⟨#[]⟩) rfl); have a3 := cell_later' (gA.cell (j := 3) (v := .slice (some ⟨b, 0, none⟩) 2 2) rfl)
      go_wp2_with fail
      refine wp_region_later Tryz.mixed (by kernel_rfl) ?_
      repeat (first | go_big_quiet_step (first | fail) | quiet_step (first | fail))
      refine wpQuiet_nil ?_
      intro w3 hb3
      replace hb3 := below_of_later hb3
      replace gA := gA.mono hb3
      replace hB := below2 hB hb3
      clear a0 a1 a2 a3 hb3 hb1
      have a0 := gA.cell (j := 0) (v := .int .i64 6) rfl; have a1 := gA.cell (j := 1) (v := .int .u64 val) rfl; have a2 := gA.cell (j := 2) (v := .string ⟨#[]⟩) rfl; have a3 := gA.cell (j := 3) (v := .slice (some ⟨b, 0, none⟩) 2 2) rfl
      go_wp2
      go_ret
      exact ⟨rfl, hB⟩
    · go_enter Tryz.func186, Tryz.ntmps186
      go_wp2_with fail
      refine name_calls fun W hN => ?_
      have hB : Below w.heap.size w W := by rw [hN]; exact (Below.refl _ _).alloc (Nat.le_refl _) _
      have gA : Blk W w.heap.size #[.int .i64 11, .int .u64 0, .string ⟨#[]⟩, .slice (some ⟨b, 0, none⟩) 2 2] 29 := by rw [hN]; exact Blk.newAt rfl
      clear hN
      refine (cE W hB).mono ?_
      rintro e w1 ⟨rfl, hb1⟩
      replace gA := gA.mono hb1
      replace hB := below2 hB hb1
      have a0 := cell_later' (gA.cell (j := 0) (v := .int .i64 11) rfl); have a1 := cell_later' (gA.cell (j := 1) (v := .int .u64 0) rfl); have a2 := cell_later' (gA.cell (j := 2) (v := .string ⟨#[]⟩) rfl); have a3 := cell_later' (gA.cell (j := 3) (v := .slice (some ⟨b, 0, none⟩) 2 2) rfl)
      go_wp2_with fail
      refine wp_region_later Tryz.mixed (by kernel_rfl) ?_
      repeat (first | go_big_quiet_step (first | fail) | quiet_step (first | fail))
      refine wpQuiet_nil ?_
      intro w3 hb3
      replace hb3 := below_of_later hb3
      replace gA := gA.mono hb3
      replace hB := below2 hB hb3
      clear a0 a1 a2 a3 hb3 hb1
      have a0 := gA.cell (j := 0) (v := .int .i64 11) rfl; have a1 := gA.cell (j := 1) (v := .int .u64 0) rfl; have a2 := gA.cell (j := 2) (v := .string ⟨#[]⟩) rfl; have a3 := gA.cell (j := 3) (v := .slice (some ⟨b, 0, none⟩) 2 2) rfl
      go_wp2
      go_ret
      exact ⟨rfl, hB⟩
    · go_enter Tryz.func186, Tryz.ntmps186
      go_wp2_with fail
      refine name_calls fun W hN => ?_
      have hB : Below w.heap.size w W := by rw [hN]; exact (Below.refl _ _).alloc (Nat.le_refl _) _
      have gA : Blk W w.heap.size #[.int .i64 14, .int .u64 0, .string ⟨#[]⟩, .slice (some ⟨b, 0, none⟩) 2 2] 29 := by rw [hN]; exact Blk.newAt rfl
      clear hN
      refine (cE W hB).mono ?_
      rintro e w1 ⟨rfl, hb1⟩
      replace gA := gA.mono hb1
      replace hB := below2 hB hb1
      have a0 := cell_later' (gA.cell (j := 0) (v := .int .i64 14) rfl); have a1 := cell_later' (gA.cell (j := 1) (v := .int .u64 0) rfl); have a2 := cell_later' (gA.cell (j := 2) (v := .string ⟨#[]⟩) rfl); have a3 := cell_later' (gA.cell (j := 3) (v := .slice (some ⟨b, 0, none⟩) 2 2) rfl)
      go_wp2_with fail
      refine wp_region_later Tryz.mixed (by kernel_rfl) ?_
      repeat (first | go_big_quiet_step (first | fail) | quiet_step (first | fail))
      refine wpQuiet_nil ?_
      intro w3 hb3
      replace hb3 := below_of_later hb3
      replace gA := gA.mono hb3
      replace hB := below2 hB hb3
      clear a0 a1 a2 a3 hb3 hb1
      have a0 := gA.cell (j := 0) (v := .int .i64 14) rfl; have a1 := gA.cell (j := 1) (v := .int .u64 0) rfl; have a2 := gA.cell (j := 2) (v := .string ⟨#[]⟩) rfl; have a3 := gA.cell (j := 3) (v := .slice (some ⟨b, 0, none⟩) 2 2) rfl
      go_wp2
      go_ret
      exact ⟨rfl, hB⟩

set_option maxRecDepth 10000 in
set_option maxHeartbeats 16000000 in
theorem Depth_any : ∀ (t : Tr), t.dep ≤ 1000 → ∀ (w : World) (P : Nat → Prop) (ev : Ev), Rep w P t ev → Calls Tryz.prog 73 #[evV ev] w fun e w' => e = .returned (.int .i64 (t.dep : Nat)) ∧ Below w.heap.size w w'
  | .nm s, _, w, P, ev, hR => by
    have hR : ev = ⟨2, 0, s, none, 0, 0⟩ := hR
    subst hR
    unfold evV
    go_enter Tryz.func73, Tryz.ntmps73
    go_wp2_with fail
    refine name_world fun W hN => ?_
    have hB : Below w.heap.size w W := by rw [hN]; exact (Below.refl _ _).alloc (Nat.le_refl _) _
    clear hN
    go_loopw [3, 9] (fun t3 t9 wr => t3 = .int .i64 0 ∧ t9 = .int .i64 0 ∧ wr = W) (fun _ _ _ => 0)
    case atStart => exact ⟨rfl, rfl, rfl⟩
    case round =>
      obtain ⟨rfl, rfl, rfl⟩ := hrel
      go_wp2
      go_ret
      exact ⟨rfl, hB⟩
  | .bin op val l r, hd, w, P, ev, hR => by
    obtain ⟨b, x, y, rfl, _, g, hl, hr⟩ := hR
    have hdd : (Tr.bin op val l r).dep = max l.dep r.dep + 1 := rfl
    rw [hdd] at hd
    have cX := fun W (hb : Below w.heap.size w W) => Depth_any l (by omega) W P x (hl.mono hb)
    have cY := fun W (hb : Below w.heap.size w W) => Depth_any r (by omega) W P y (hr.mono hb)
    rw [hdd]
    obtain ⟨m, hm⟩ : ∃ m, l.dep = m := ⟨_, rfl⟩
    obtain ⟨n, hn⟩ : ∃ n, r.dep = n := ⟨_, rfl⟩
    rw [hm] at cX hd
    rw [hn] at cY hd
    rw [hm, hn]
    have hmI : (m : Int) ≤ 1000 := by omega
    have hnI : (n : Int) ≤ 1000 := by omega
    unfold evV at *
    clear hl hr hdd hm hn
    go_enter Tryz.func73, Tryz.ntmps73
    go_wp2_with fail
    refine name_world fun W hN => ?_
    have hB : Below w.heap.size w W := by rw [hN]; exact (Below.refl _ _).alloc (Nat.le_refl _) _
    clear hN
    go_loopw [3, 9] (fun t3 t9 wr => ∃ i d : Nat, i ≤ 2 ∧ t9 = .int .i64 i ∧ t3 = .int .i64 d ∧ (i = 0 → d = 0) ∧ (i = 1 → d = m) ∧ (i = 2 → d = max m n) ∧ Below w.heap.size w wr) (fun _ t9 _ => 2 - (intOf t9).toNat)
    case atStart => exact ⟨0, 0, by omega, rfl, rfl, fun _ => rfl, fun h => by omega, fun h => by omega, hB⟩
    case round =>
      clear hB
      obtain ⟨i, d, hi, rfl, rfl, d0, d1, d2, hB⟩ := hrel
      have g' := g.mono hB
      rcases (show i = 0 ∨ i = 1 ∨ i = 2 by omega) with rfl | rfl | rfl
      · obtain rfl := d0 rfl
        have c0 := g'.cell (j := 0) (v := .int .i64 x.op) rfl; have c1 := g'.cell (j := 1) (v := .int .u64 x.val) rfl; have c2 := g'.cell (j := 2) (v := .string x.nm) rfl; have c3 := g'.cell (j := 3) (v := .slice x.ad x.n x.c) rfl
        have hB1 : Below w.heap.size w (wr.alloc (.cells #[.int .i64 x.op, .int .u64 x.val, .string x.nm, .slice x.ad x.n x.c] 29)) := hB.alloc hB.size _
        have hmx : max (0 : Int) (m : Int) = m := by omega
        clear d0 d1 d2
        go_wp2_with fail
        refine (cX _ hB1).mono ?_
        rintro e w2 ⟨rfl, hb2⟩
        have hB2 := below2 hB1 hb2
        clear c0 c1 c2 c3 g'
        go_wp2
        go_roundw
        case rel => exact ⟨1, m, by omega, rfl, by first | rfl | simp [hmx], fun h => by omega, fun _ => rfl, fun h => by omega, hB2⟩
        case measure => simp [intOf]
      · obtain rfl := d1 rfl
        have c0 := g'.cell (j := 4) (v := .int .i64 y.op) rfl; have c1 := g'.cell (j := 5) (v := .int .u64 y.val) rfl; have c2 := g'.cell (j := 6) (v := .string y.nm) rfl; have c3 := g'.cell (j := 7) (v := .slice y.ad y.n y.c) rfl
        have hB1 : Below w.heap.size w (wr.alloc (.cells #[.int .i64 y.op, .int .u64 y.val, .string y.nm, .slice y.ad y.n y.c] 29)) := hB.alloc hB.size _
        clear d0 d1 d2
        go_wp2_with fail
        refine (cY _ hB1).mono ?_
        rintro e w2 ⟨rfl, hb2⟩
        have hB2 := below2 hB1 hb2
        clear c0 c1 c2 c3 g'
        go_wp2
        go_roundw
        case rel => exact ⟨2, max d n, by omega, rfl, by first | rfl | (congr 1; omega), fun h => by omega, fun h => by omega, fun _ => rfl, hB2⟩
        case measure => simp [intOf]
      · obtain rfl := d2 rfl
        go_wp2
        go_ret
        exact ⟨by first | rfl | (congr 2; omega), hB⟩

theorem isShallow_any (t : Tr) (ht : t.dep ≤ 40) (w : World) (P : Nat → Prop) (ev : Ev) (hR : Rep w P t ev) : Calls Tryz.prog 190 #[evV ev] w fun e w' => e = .returned (.bool true) ∧ Below w.heap.size w w' := by
  have cD := fun W (hb : Below w.heap.size w W) => Depth_any t (by omega) W P ev (hR.mono hb)
  have htI : (t.dep : Int) ≤ 40 := by omega
  unfold evV at *
  go_enter Tryz.func190, Tryz.ntmps190
  go_wp2_with fail
  refine name_calls fun W hN => ?_
  have hB : Below w.heap.size w W := by rw [hN]; exact (Below.refl _ _).alloc (Nat.le_refl _) _
  clear hN
  refine (cD W hB).mono ?_
  rintro e w1 ⟨rfl, hb1⟩
  go_wp2
  go_ret
  exact ⟨by simp, below2 hB hb1⟩
theorem isUntyped_any (ev : Ev) (w : World) : Calls Tryz.prog 187 #[stV ev] w fun e w' => e = .returned (.bool true) ∧ Below w.heap.size w w' := by
  unfold stV stC
  have hq : ∀ W, Sem.run Tryz.prog (binOp .eql 32 (.agg #[.int .i64 0, .int .i64 0, .int .i64 0]) (.agg #[.int .i64 0, .int .i64 0, .int .i64 0])) W = .ok (.bool true) W := fun W => by kernel_rfl
  go_enter Tryz.func187, Tryz.ntmps187
  go_wp2
  go_ret
  exact ⟨rfl, (Below.refl _ _).alloc (Nat.le_refl _) _⟩
set_option maxRecDepth 10000 in
set_option maxHeartbeats 4000000 in
theorem stmtDepth_any (ev : Ev) (w : World) : Calls Tryz.prog 191 #[stV ev] w fun e w' => e = .returned (.int .i64 1) ∧ Below w.heap.size w w' := by
  unfold stV stC
  go_enter Tryz.func191, Tryz.ntmps191
  go_wp2_with fail
  refine name_world fun W hN => ?_
  have hB : Below w.heap.size w W := by rw [hN]; exact (Below.refl _ _).alloc (Nat.le_refl _) _
  clear hN
  go_loopw [3, 9] (fun t3 t9 wr => t3 = .int .i64 0 ∧ t9 = .int .i64 0 ∧ wr = W) (fun _ _ _ => 0)
  case atStart => exact ⟨rfl, rfl, rfl⟩
  case round =>
    obtain ⟨rfl, rfl, rfl⟩ := hrel
    go_wp2
    go_ret
    exact ⟨rfl, hB⟩
set_option maxRecDepth 10000 in
set_option maxHeartbeats 4000000 in
theorem isStmt_any (t : Tr) (hok : t.ok) (w : World) (P : Nat → Prop) (ev : Ev) (hR : Rep w P t ev) : Calls Tryz.prog 128 #[stV ev] w fun e w' => e = .returned (.bool true) ∧ Below w.heap.size w w' := by
  have cE := fun W (hb : Below w.heap.size w W) => isExpr_any t hok W P ev (hR.mono hb)
  have cU := fun W => isUntyped_any ev W
  unfold stV stC evV at *
  go_enter Tryz.func128, Tryz.ntmps128
  go_wp2_with fail
  refine name_calls fun W hN => ?_
  have gA : Blk W w.heap.size #[.int .i64 2, .string ⟨#[]⟩, .bool false, .int .i64 0, .int .i64 0, .int .i64 0, .int .i64 ev.op, .int .u64 ev.val, .string ev.nm, .slice ev.ad ev.n ev.c, .int .i64 0, .int .i64 0, .slice none 0 0] 38 := by rw [hN]; exact Blk.newAt rfl
  have hB : Below w.heap.size w W := by rw [hN]; exact (Below.refl _ _).alloc (Nat.le_refl _) _
  clear hN
  refine (cU W).mono ?_
  rintro e w1 ⟨rfl, hb1⟩
  replace gA := gA.mono hb1
  replace hB := below2 hB hb1
  have a0 := gA.cell (j := 0) (v := .int .i64 2) rfl; have a1 := gA.cell (j := 1) (v := .string ⟨#[]⟩) rfl; have a2 := gA.cell (j := 2) (v := .bool false) rfl; have a3 := gA.cell (j := 3) (v := .int .i64 0) rfl; have a4 := gA.cell (j := 4) (v := .int .i64 0) rfl; have a5 := gA.cell (j := 5) (v := .int .i64 0) rfl; have a6 := gA.cell (j := 6) (v := .int .i64 ev.op) rfl; have a7 := gA.cell (j := 7) (v := .int .u64 ev.val) rfl; have a8 := gA.cell (j := 8) (v := .string ev.nm) rfl; have a9 := gA.cell (j := 9) (v := .slice ev.ad ev.n ev.c) rfl; have a10 := gA.cell (j := 10) (v := .int .i64 0) rfl; have a11 := gA.cell (j := 11) (v := .int .i64 0) rfl; have a12 := gA.cell (j := 12) (v := .slice none 0 0) rfl
  go_wp2_with fail
  refine (cE w1 hB).mono ?_
  rintro e w2 ⟨rfl, hb2⟩
  replace gA := gA.mono hb2
  replace hB := below2 hB hb2
  clear cE cU hb1 hb2 a0 a1 a2 a3 a4 a5 a6 a7 a8 a9 a10 a11 a12
  have a0 := gA.cell (j := 0) (v := .int .i64 2) rfl; have a1 := gA.cell (j := 1) (v := .string ⟨#[]⟩) rfl; have a2 := gA.cell (j := 2) (v := .bool false) rfl; have a3 := gA.cell (j := 3) (v := .int .i64 0) rfl; have a4 := gA.cell (j := 4) (v := .int .i64 0) rfl; have a5 := gA.cell (j := 5) (v := .int .i64 0) rfl; have a6 := gA.cell (j := 6) (v := .int .i64 ev.op) rfl; have a7 := gA.cell (j := 7) (v := .int .u64 ev.val) rfl; have a8 := gA.cell (j := 8) (v := .string ev.nm) rfl; have a9 := gA.cell (j := 9) (v := .slice ev.ad ev.n ev.c) rfl; have a10 := gA.cell (j := 10) (v := .int .i64 0) rfl; have a11 := gA.cell (j := 11) (v := .int .i64 0) rfl; have a12 := gA.cell (j := 12) (v := .slice none 0 0) rfl
  go_wp2
  go_ret
  exact ⟨rfl, hB⟩
theorem everyS0_any (f : Nat) (w : World) : Calls Tryz.prog 127 #[.slice none 0 0, .func (.func f) #[] #[]] w fun e w' => e = .returned (.bool true) ∧ Below w.heap.size w w' := by
  go_enter Tryz.func127, Tryz.ntmps127
  go_wp2_with fail
  go_loopw [9] (fun t9 wr => t9 = .int .i64 0 ∧ wr = w) (fun _ _ => 0)
  case atStart => exact ⟨rfl, rfl⟩
  case round =>
    obtain ⟨rfl, rfl⟩ := hrel
    go_wp2
    go_ret
    exact ⟨rfl, Below.refl _ _⟩
theorem everyF0_any (f : Nat) (w : World) : Calls Tryz.prog 123 #[.slice none 0 0, .func (.func f) #[] #[]] w fun e w' => e = .returned (.bool true) ∧ Below w.heap.size w w' := by
  go_enter Tryz.func123, Tryz.ntmps123
  go_wp2_with fail
  go_loopw [9] (fun t9 wr => t9 = .int .i64 0 ∧ wr = w) (fun _ _ => 0)
  case atStart => exact ⟨rfl, rfl⟩
  case round =>
    obtain ⟨rfl, rfl⟩ := hrel
    go_wp2
    go_ret
    exact ⟨rfl, Below.refl _ _⟩
set_option maxRecDepth 10000 in
set_option maxHeartbeats 4000000 in
theorem isShallowStmt_any (t : Tr) (ht : t.dep ≤ 40) (w : World) (P : Nat → Prop) (ev : Ev) (hR : Rep w P t ev) : Calls Tryz.prog 130 #[stV ev] w fun e w' => e = .returned (.bool true) ∧ Below w.heap.size w w' := by
  have cE := fun W (hb : Below w.heap.size w W) => isShallow_any t ht W P ev (hR.mono hb)
  have cD := fun W => stmtDepth_any ev W
  unfold stV stC evV at *
  go_enter Tryz.func130, Tryz.ntmps130
  go_wp2_with fail
  refine name_calls fun W hN => ?_
  have gA : Blk W w.heap.size #[.int .i64 2, .string ⟨#[]⟩, .bool false, .int .i64 0, .int .i64 0, .int .i64 0, .int .i64 ev.op, .int .u64 ev.val, .string ev.nm, .slice ev.ad ev.n ev.c, .int .i64 0, .int .i64 0, .slice none 0 0] 38 := by rw [hN]; exact Blk.newAt rfl
  have hB : Below w.heap.size w W := by rw [hN]; exact (Below.refl _ _).alloc (Nat.le_refl _) _
  clear hN
  refine (cD W).mono ?_
  rintro e w1 ⟨rfl, hb1⟩
  replace gA := gA.mono hb1
  replace hB := below2 hB hb1
  have a0 := gA.cell (j := 0) (v := .int .i64 2) rfl; have a1 := gA.cell (j := 1) (v := .string ⟨#[]⟩) rfl; have a2 := gA.cell (j := 2) (v := .bool false) rfl; have a3 := gA.cell (j := 3) (v := .int .i64 0) rfl; have a4 := gA.cell (j := 4) (v := .int .i64 0) rfl; have a5 := gA.cell (j := 5) (v := .int .i64 0) rfl; have a6 := gA.cell (j := 6) (v := .int .i64 ev.op) rfl; have a7 := gA.cell (j := 7) (v := .int .u64 ev.val) rfl; have a8 := gA.cell (j := 8) (v := .string ev.nm) rfl; have a9 := gA.cell (j := 9) (v := .slice ev.ad ev.n ev.c) rfl; have a10 := gA.cell (j := 10) (v := .int .i64 0) rfl; have a11 := gA.cell (j := 11) (v := .int .i64 0) rfl; have a12 := gA.cell (j := 12) (v := .slice none 0 0) rfl
  go_wp2_with fail
  refine (cE w1 hB).mono ?_
  rintro e w2 ⟨rfl, hb2⟩
  replace gA := gA.mono hb2
  replace hB := below2 hB hb2
  clear cE cD hb1 hb2 a0 a1 a2 a3 a4 a5 a6 a7 a8 a9 a10 a11 a12
  have a0 := gA.cell (j := 0) (v := .int .i64 2) rfl; have a1 := gA.cell (j := 1) (v := .string ⟨#[]⟩) rfl; have a2 := gA.cell (j := 2) (v := .bool false) rfl; have a3 := gA.cell (j := 3) (v := .int .i64 0) rfl; have a4 := gA.cell (j := 4) (v := .int .i64 0) rfl; have a5 := gA.cell (j := 5) (v := .int .i64 0) rfl; have a6 := gA.cell (j := 6) (v := .int .i64 ev.op) rfl; have a7 := gA.cell (j := 7) (v := .int .u64 ev.val) rfl; have a8 := gA.cell (j := 8) (v := .string ev.nm) rfl; have a9 := gA.cell (j := 9) (v := .slice ev.ad ev.n ev.c) rfl; have a10 := gA.cell (j := 10) (v := .int .i64 0) rfl; have a11 := gA.cell (j := 11) (v := .int .i64 0) rfl; have a12 := gA.cell (j := 12) (v := .slice none 0 0) rfl
  go_wp2_with fail
  refine (everyS0_any _ w2).mono ?_
  rintro e w3 ⟨rfl, hb3⟩
  go_wp2
  go_ret
  exact ⟨rfl, below2 hB hb3⟩

/-- A list of one statement. -/
def StP (w : World) (b : Nat) (ev : Ev) : Prop := ∀ j u, (stC ev)[j]? = some u → w.cell? ⟨b, j, none⟩ = some u
theorem StP.mono {w w' : World} {b : Nat} {ev : Ev} (h : StP w b ev) (hb : Below w.heap.size w w') : StP w' b ev := fun j u hu => cell_below hb (h j u hu)
set_option maxRecDepth 10000 in
set_option maxHeartbeats 4000000 in
theorem everyS1_any (w : World) (b c : Nat) (ev : Ev) (hS : StP w b ev)
    (hf : ∀ W, Below w.heap.size w W → Calls Tryz.prog 128 #[stV ev] W fun e w' => e = .returned (.bool true) ∧ Below W.heap.size W w') :
    Calls Tryz.prog 127 #[.slice (some ⟨b, 0, none⟩) 1 c, .func (.func 128) #[] #[]] w fun e w' => e = .returned (.bool true) ∧ Below w.heap.size w w' := by
  have hrefl := Below.refl w.heap.size w
  unfold stV at hf
  unfold stC at hf
  go_enter Tryz.func127, Tryz.ntmps127
  go_wp2_with fail
  go_loopw [9] (fun t9 wr => ∃ i : Nat, i ≤ 1 ∧ t9 = .int .i64 i ∧ Below w.heap.size w wr) (fun t9 _ => 1 - (intOf t9).toNat)
  case atStart => exact ⟨0, by omega, rfl, hrefl⟩
  case round =>
    clear hrefl
    obtain ⟨i, hi, rfl, hB⟩ := hrel
    rcases (show i = 0 ∨ i = 1 by omega) with rfl | rfl
    · have S' := hS.mono hB
      have s0 := S' 0 (.int .i64 2) rfl
      have s1 := S' 1 (.string ⟨#[]⟩) rfl
      have s2 := S' 2 (.bool false) rfl
      have s3 := S' 3 (.int .i64 0) rfl
      have s4 := S' 4 (.int .i64 0) rfl
      have s5 := S' 5 (.int .i64 0) rfl
      have s6 := S' 6 (.int .i64 ev.op) rfl
      have s7 := S' 7 (.int .u64 ev.val) rfl
      have s8 := S' 8 (.string ev.nm) rfl
      have s9 := S' 9 (.slice ev.ad ev.n ev.c) rfl
      have s10 := S' 10 (.int .i64 0) rfl
      have s11 := S' 11 (.int .i64 0) rfl
      have s12 := S' 12 (.slice none 0 0) rfl
      clear S'
      have hB1 : Below w.heap.size w (wr.alloc (.cells #[.int .i64 2, .string ⟨#[]⟩, .bool false, .int .i64 0, .int .i64 0, .int .i64 0, .int .i64 ev.op, .int .u64 ev.val, .string ev.nm, .slice ev.ad ev.n ev.c, .int .i64 0, .int .i64 0, .slice none 0 0] 38)) := hB.alloc hB.size _
      go_wp2_with fail
      refine (hf _ hB1).mono ?_
      rintro e w2 ⟨rfl, hb2⟩
      have hB2 := below2 hB1 hb2
      clear s0 s1 s2 s3 s4 s5 s6 s7 s8 s9 s10 s11 s12
      go_wp2
      go_roundw
      case rel => exact ⟨1, by omega, rfl, hB2⟩
      case measure => simp [intOf]
    · go_wp2
      go_ret
      exact ⟨rfl, hB⟩

set_option maxRecDepth 10000 in
set_option maxHeartbeats 4000000 in
theorem everyS1H_any (w : World) (b c : Nat) (ev : Ev) (hS : StP w b ev)
    (hf : ∀ W, Below w.heap.size w W → Calls Tryz.prog 130 #[stV ev] W fun e w' => e = .returned (.bool true) ∧ Below W.heap.size W w') :
    Calls Tryz.prog 127 #[.slice (some ⟨b, 0, none⟩) 1 c, .func (.func 130) #[] #[]] w fun e w' => e = .returned (.bool true) ∧ Below w.heap.size w w' := by
  have hrefl := Below.refl w.heap.size w
  unfold stV at hf
  unfold stC at hf
  go_enter Tryz.func127, Tryz.ntmps127
  go_wp2_with fail
  go_loopw [9] (fun t9 wr => ∃ i : Nat, i ≤ 1 ∧ t9 = .int .i64 i ∧ Below w.heap.size w wr) (fun t9 _ => 1 - (intOf t9).toNat)
  case atStart => exact ⟨0, by omega, rfl, hrefl⟩
  case round =>
    clear hrefl
    obtain ⟨i, hi, rfl, hB⟩ := hrel
    rcases (show i = 0 ∨ i = 1 by omega) with rfl | rfl
    · have S' := hS.mono hB
      have s0 := S' 0 (.int .i64 2) rfl
      have s1 := S' 1 (.string ⟨#[]⟩) rfl
      have s2 := S' 2 (.bool false) rfl
      have s3 := S' 3 (.int .i64 0) rfl
      have s4 := S' 4 (.int .i64 0) rfl
      have s5 := S' 5 (.int .i64 0) rfl
      have s6 := S' 6 (.int .i64 ev.op) rfl
      have s7 := S' 7 (.int .u64 ev.val) rfl
      have s8 := S' 8 (.string ev.nm) rfl
      have s9 := S' 9 (.slice ev.ad ev.n ev.c) rfl
      have s10 := S' 10 (.int .i64 0) rfl
      have s11 := S' 11 (.int .i64 0) rfl
      have s12 := S' 12 (.slice none 0 0) rfl
      clear S'
      have hB1 : Below w.heap.size w (wr.alloc (.cells #[.int .i64 2, .string ⟨#[]⟩, .bool false, .int .i64 0, .int .i64 0, .int .i64 0, .int .i64 ev.op, .int .u64 ev.val, .string ev.nm, .slice ev.ad ev.n ev.c, .int .i64 0, .int .i64 0, .slice none 0 0] 38)) := hB.alloc hB.size _
      go_wp2_with fail
      refine (hf _ hB1).mono ?_
      rintro e w2 ⟨rfl, hb2⟩
      have hB2 := below2 hB1 hb2
      clear s0 s1 s2 s3 s4 s5 s6 s7 s8 s9 s10 s11 s12
      go_wp2
      go_roundw
      case rel => exact ⟨1, by omega, rfl, hB2⟩
      case measure => simp [intOf]
    · go_wp2
      go_ret
      exact ⟨rfl, hB⟩

/-- The declarations. -/
def deL : Lay (Bool × ByteArray) := ⟨fun d => [.bool d.1, .string d.2, .int .i64 1, .int .i64 0, .int .i64 0], 5, fun _ => rfl, by decide, fun x u hu => by
  simp only [List.mem_cons, List.not_mem_nil, or_false] at hu
  rcases hu with rfl | rfl | rfl | rfl | rfl <;> rfl⟩
/-- A list of declarations, from the block's beginning. -/
def DeP (w : World) (b : Nat) (ds : List (Bool × ByteArray)) : Prop := ∀ i, i < ds.length → w.cell? ⟨b, i * 5, none⟩ = some (.bool (ds.getD i (false, ⟨#[]⟩)).1) ∧ w.cell? ⟨b, i * 5 + 1, none⟩ = some (.string (ds.getD i (false, ⟨#[]⟩)).2) ∧ w.cell? ⟨b, i * 5 + 2, none⟩ = some (.int .i64 1) ∧ w.cell? ⟨b, i * 5 + 3, none⟩ = some (.int .i64 0) ∧ w.cell? ⟨b, i * 5 + 4, none⟩ = some (.int .i64 0)
theorem DeP.mono {w w' : World} {b : Nat} {ds : List (Bool × ByteArray)} (h : DeP w b ds) (hb : Below w.heap.size w w') : DeP w' b ds := fun i hi =>
  ⟨cell_below hb (h i hi).1, cell_below hb (h i hi).2.1, cell_below hb (h i hi).2.2.1, cell_below hb (h i hi).2.2.2.1, cell_below hb (h i hi).2.2.2.2⟩
set_option maxRecDepth 10000 in
set_option maxHeartbeats 4000000 in
theorem everyD_any (w : World) (b n c : Nat) (ds : List (Bool × ByteArray)) (hl : ds.length = n) (hn : n ≤ 100) (hD : DeP w b ds) (hok : ∀ d ∈ ds, NmOk d.2) :
    Calls Tryz.prog 125 #[.slice (some ⟨b, 0, none⟩) n c, .func (.func 126) #[] #[]] w fun e w' => e = .returned (.bool true) ∧ Below w.heap.size w w' := by
  have hrefl := Below.refl w.heap.size w
  have hnI : (n : Int) ≤ 100 := by omega
  replace hl := hide hl
  go_enter Tryz.func125, Tryz.ntmps125
  go_wp2_with fail
  go_loopw [9] (fun t9 wr => ∃ i : Nat, i ≤ n ∧ t9 = .int .i64 i ∧ Below w.heap.size w wr) (fun t9 _ => n - (intOf t9).toNat)
  case atStart => exact ⟨0, by omega, rfl, hrefl⟩
  case round =>
    clear hrefl
    obtain ⟨i, hi, rfl, hB⟩ := hrel
    by_cases hlt : i < n
    · have hltI : (i : Int) < n := by omega
      have hil : i < ds.length := by rw [hl.out]; exact hlt
      obtain ⟨c0, c1, c2, c3, c4⟩ := hD.mono hB i hil
      have ho := hok _ (getD_mem' hil (false, ⟨#[]⟩))
      generalize ds.getD i (false, ⟨#[]⟩) = d at *
      have cD := fun W => isDecl_any d.1 d.2 ho W
      unfold deV at cD
      have hB1 : Below w.heap.size w (wr.alloc (.cells #[.bool d.1, .string d.2, .int .i64 1, .int .i64 0, .int .i64 0] 34)) := hB.alloc hB.size _
      clear ho
      go_wp2_with fail
      refine (cD _).mono ?_
      rintro e w2 ⟨rfl, hb2⟩
      have hB2 := below2 hB1 hb2
      clear c0 c1 c2 c3 c4
      go_wp2
      go_roundw
      case rel => exact ⟨i + 1, by omega, by go_num, hB2⟩
      case measure => simp [intOf]; omega
    · obtain rfl : i = n := by omega
      go_wp2
      go_ret
      exact ⟨rfl, hB⟩
theorem everyD0_any (w : World) : Calls Tryz.prog 125 #[.slice none 0 0, .func (.func 126) #[] #[]] w fun e w' => e = .returned (.bool true) ∧ Below w.heap.size w w' := by
  go_enter Tryz.func125, Tryz.ntmps125
  go_wp2_with fail
  go_loopw [9] (fun t9 wr => t9 = .int .i64 0 ∧ wr = w) (fun _ _ => 0)
  case atStart => exact ⟨rfl, rfl⟩
  case round =>
    obtain ⟨rfl, rfl⟩ := hrel
    go_wp2
    go_ret
    exact ⟨rfl, Below.refl _ _⟩
set_option maxRecDepth 10000 in
set_option maxHeartbeats 4000000 in
theorem Valid15_any (t : Tr) (hok : t.ok) (ht : t.dep ≤ 40) (w : World) (P : Nat → Prop) (ev : Ev) (hR : Rep w P t ev) (ad : Option Addr) (n c b bc : Nat) (hS : StP w b ev)
    (hD : ∀ W, Below w.heap.size w W → Calls Tryz.prog 125 #[.slice ad n c, .func (.func 126) #[] #[]] W fun e w' => e = .returned (.bool true) ∧ Below W.heap.size W w') :
    Calls Tryz.prog 76 #[.agg #[.slice none 0 0, .slice ad n c, .slice (some ⟨b, 0, none⟩) 1 bc]] w fun e w' => e = .returned (.int .i64 0) ∧ Below w.heap.size w w' := by
  have cS := fun W (hb : Below w.heap.size w W) => everyS1_any W b bc ev (hS.mono hb) (fun W2 h2 => isStmt_any t hok W2 P ev (hR.mono (below2 hb h2)))
  have cH := fun W (hb : Below w.heap.size w W) => everyS1H_any W b bc ev (hS.mono hb) (fun W2 h2 => isShallowStmt_any t ht W2 P ev (hR.mono (below2 hb h2)))
  clear hR hS hok ht
  go_enter Tryz.func76, Tryz.ntmps76
  go_wp2_with fail
  refine name_calls fun W hN => ?_
  have gA : Blk W w.heap.size #[.slice none 0 0, .slice ad n c, .slice (some ⟨b, 0, none⟩) 1 bc] 41 := by rw [hN]; exact Blk.newAt rfl
  have hB : Below w.heap.size w W := by rw [hN]; exact (Below.refl _ _).alloc (Nat.le_refl _) _
  clear hN
  refine (everyF0_any _ W).mono ?_
  rintro e w1 ⟨rfl, hb1⟩
  replace gA := gA.mono hb1
  replace hB := below2 hB hb1
  clear hb1
  have a0 := gA.cell (j := 0) (v := .slice none 0 0) rfl; have a1 := gA.cell (j := 1) (v := .slice ad n c) rfl; have a2 := gA.cell (j := 2) (v := .slice (some ⟨b, 0, none⟩) 1 bc) rfl
  go_wp2_with fail
  refine (hD w1 hB).mono ?_
  rintro e w2 ⟨rfl, hb2⟩
  replace gA := gA.mono hb2
  replace hB := below2 hB hb2
  clear hb2 a0 a1 a2
  have a0 := gA.cell (j := 0) (v := .slice none 0 0) rfl; have a1 := gA.cell (j := 1) (v := .slice ad n c) rfl; have a2 := gA.cell (j := 2) (v := .slice (some ⟨b, 0, none⟩) 1 bc) rfl
  go_wp2_with fail
  refine (cS w2 hB).mono ?_
  rintro e w3 ⟨rfl, hb3⟩
  replace gA := gA.mono hb3
  replace hB := below2 hB hb3
  clear hb3 a0 a1 a2
  have a0 := gA.cell (j := 0) (v := .slice none 0 0) rfl; have a1 := gA.cell (j := 1) (v := .slice ad n c) rfl; have a2 := gA.cell (j := 2) (v := .slice (some ⟨b, 0, none⟩) 1 bc) rfl
  go_wp2_with fail
  refine (everyF0_any _ w3).mono ?_
  rintro e w4 ⟨rfl, hb4⟩
  replace gA := gA.mono hb4
  replace hB := below2 hB hb4
  clear hb4 a0 a1 a2
  have a0 := gA.cell (j := 0) (v := .slice none 0 0) rfl; have a1 := gA.cell (j := 1) (v := .slice ad n c) rfl; have a2 := gA.cell (j := 2) (v := .slice (some ⟨b, 0, none⟩) 1 bc) rfl
  go_wp2_with fail
  refine (cH w4 hB).mono ?_
  rintro e w5 ⟨rfl, hb5⟩
  replace gA := gA.mono hb5
  replace hB := below2 hB hb5
  clear hb5 a0 a1 a2
  go_wp2
  go_ret
  exact ⟨rfl, hB⟩
end Go.Proofs.YtalmgeefkcebdaaGreatDoor

