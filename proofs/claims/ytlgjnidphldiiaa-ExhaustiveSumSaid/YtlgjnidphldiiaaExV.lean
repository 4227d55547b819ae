/- Exhaustive search: Inputs of the reference. -/
import Derived.Test.YtlgjnidphldiiaaExU
namespace Go.Proofs.Ytlgjnidphldiiaa
open Go.ChangeShapes Go.WideShapes Go.ChangeAt Go.RowKit

set_option maxRecDepth 10000 in
set_option maxHeartbeats 16000000 in
theorem rInp1_any (P V : Nat) (pub : Int) (ra : Option Addr) (R : List Rw) (rc : Nat) (w : World) (hp : 17 ≤ P) (h257 : P ≤ 257) (hrow : ∀ r ∈ R, RowOk P V r.val) (hV : V ≤ 65536) (hRl : R.length ≤ 16384) (hR : RowsP w ra rc R) (hIn : 1 < V) :
    Calls Try.prog 66 #[.agg #[.int .u64 P, .int .i64 pub, .int .i64 V, .slice ra R.length rc], .int .i64 1] w fun e w' => ∃ v, e = .returned v ∧ LL w' w.heap.size v (inpL P (R.map Rw.val) V 1) ∧ Below w.heap.size w w' := by
  have cW := fun fa fc front W h1 h2 h3 h4 => rTot_any P V pub ra R rc fa fc front 1 W hp h257 hrow hV hRl h1 h2 h3 h4 ⟨by omega, by omega⟩
  have hVI : (V : Int) ≤ 65536 := by omega
  have hP2 : (P : Int) ≤ 257 := by omega
  obtain ⟨F, hF⟩ : ∃ F, F = fun l => decide (0 < totN P (R.map Rw.val) V l 1) := ⟨_, rfl⟩
  replace hF := hide hF
  have hresL : Hid (inpL P (R.map Rw.val) V 1 = inp1 F P) := hide (by rw [hF.out]; rfl)
  replace hrow := hide hrow
  replace hRl := hide hRl
  go_enter Try.func66, Try.ntmps66
  go_wp2_with fail
  refine name_world fun W hN => ?_
  have g0 : Blk W w.heap.size #[.int .u64 P, .int .i64 pub, .int .i64 V, .slice ra R.length rc] 34 := by rw [hN]; exact Blk.newAt rfl
  have hB : Below w.heap.size w W := by rw [hN]; exact (Below.refl _ _).alloc (Nat.le_refl _) _
  clear hN
  have hL0 : LW W w.heap.size w.heap.size (.slice none 0 0) [] := ⟨[], OwnG.nil _ _ _ _, (fun s hs => by cases hs), rfl⟩
  go_loopw [5, 6] (fun t5 t6 wr => ∃ x : Nat, x ≤ P ∧ t6 = .int .u64 x ∧ LW wr w.heap.size w.heap.size t5 (inp1 F x) ∧ Below w.heap.size w wr ∧ Blk wr w.heap.size #[.int .u64 P, .int .i64 pub, .int .i64 V, .slice ra R.length rc] 34) (fun _ t6 _ => P - (intOf t6).toNat)
  case atStart => exact ⟨0, Nat.zero_le _, rfl, hL0, hB, g0⟩
  case round =>
    clear hL0 hB g0
    obtain ⟨x, hx, rfl, hL, hB, g0⟩ := hrel
    by_cases hlt : x < P
    · have hltI : (x : Int) < P := by omega
      have hx0 : (0 : Int) ≤ x := by omega
      have hxl := inp1_len F x
      have k0 := g0.cell (j := 0) (v := .int .u64 P) rfl; have k1 := g0.cell (j := 1) (v := .int .i64 pub) rfl; have k2 := g0.cell (j := 2) (v := .int .i64 V) rfl; have k3 := g0.cell (j := 3) (v := .slice ra R.length rc) rfl
      go_wp2_with fail
      refine name_calls fun W hN => ?_
      have hbW : Below wr.heap.size wr W := by rw [hN]; exact (Below.refl _ _).alloc (Nat.le_refl _) _
      have gx : Blk W wr.heap.size #[.int .u64 x] 22 := by rw [hN]; exact Blk.newAt rfl
      clear hN
      have hwz := hB.size
      have htl := g0.lt
      have hfb : ∀ u ∈ [(x : Int)], 0 ≤ u ∧ u < (P : Int) := fun u hu => by simp only [List.mem_cons, List.not_mem_nil, or_false] at hu; omega
      refine (cW (some ⟨wr.heap.size, 0, none⟩) 1 [(x : Int)] W ((hR.mono hB).mono hbW) (UsB.sl (s := ⟨wr.heap.size, [(x : Int)]⟩) gx) hfb (by show 1 + 1 ≤ V; omega)).mono ?_
      rintro en w4 ⟨rfl, hb4⟩
      have hstep : (0 < totN P (R.map Rw.val) V [(x : Int)] 1 → inp1 F (x + 1) = inp1 F x ++ [[(x : Int)]]) ∧ (¬ 0 < totN P (R.map Rw.val) V [(x : Int)] 1 → inp1 F (x + 1) = inp1 F x) := by
        rw [inp1, hF.out]
        constructor
        · intro h; rw [if_pos (decide_eq_true h)]
        · intro h; rw [if_neg (fun h2 => h (of_decide_eq_true h2)), List.append_nil]
      generalize totN P (R.map Rw.val) V [(x : Int)] 1 = z at *
      have hb44 := below2 hbW hb4
      have hL4 := hL.mono hb44
      have g4 := g0.mono hb44
      have hB4 : Below w.heap.size w w4 := below2 hB hb44
      have hs4 := hB4.size
      have htl4 := g4.lt
      clear cW hbW gx hb4 hb44 hL g0 hB hfb k0 k1 k2 k3
      by_cases hz : 0 < z
      · have hX := hide (hstep.1 hz)
        obtain ⟨Xs, ow, hok, hXs⟩ := hL4
        have hlen : Hid (Xs.length ≤ 70000) := hide (by
          have h1 := congrArg List.length hXs
          rw [List.length_map] at h1
          omega)
        clear hstep
        go_wp2_with (at_builtin; refine wpList_appG _ usL Xs [⟨w4.heap.size, [(x : Int)]⟩] rfl _ _ 93 rfl w.heap.size 54 (.slice none 0 0) 24 Try.underlying93 Try.infoUs rfl (by decide) _ 1 1 (some ⟨_, 0, none⟩) rfl rfl rfl ((ow.alloc _).alloc _) (SlG.one (Blk.newAt (by simp)) rfl) (by have := hlen.out; simp; omega) (by simp; omega) ?_; intro v' w' own' hg'; refine Hold.mk ?_)
        refine Hold.go ?_
        have hbA : Below w4.heap.size w4 ((w4.alloc (.cells #[.int .u64 x] 22)).alloc (.cells #[.slice (some ⟨w4.heap.size, 0, none⟩) 1 1] 54)) := ((Below.refl _ _).alloc (Nat.le_refl _) _).alloc (by simp) _
        obtain ⟨hL5, k5⟩ := LW.push (s := ⟨w4.heap.size, [(x : Int)]⟩) ((ow.alloc _).alloc _) (fun s hs => ⟨(hok s hs).1.mono hbA, (hok s hs).2⟩) hXs ⟨(Blk.new w4 #[.int .u64 x] 22).alloc _, by show w4.heap.size ≠ w.heap.size; omega⟩ (by simp; omega) hg' own'
        have g5 := k5.typ _ _ _ (g4.mono hbA) (by unfold XLs; decide)
        have hB5 : Below w.heap.size w w' := (below2 hB4 hbA).trans k5.below
        replace hL5 : LW w' w.heap.size w.heap.size v' (inp1 F (x + 1)) := by rw [hX.out]; exact hL5
        clear ow hok hXs hbA hg' own' k5 g4 hB4 hX
        go_wp2
        go_roundw
        case rel => exact ⟨x + 1, by omega, by go_num, hL5, hB5, g5⟩
        case measure => simp [intOf]; omega
      · have hX := hide (hstep.2 hz)
        rw [← hX.out] at hL4
        clear hstep
        go_wp2
        go_roundw
        case rel => exact ⟨x + 1, by omega, by go_num, hL4, hB4, g4⟩
        case measure => simp [intOf]; omega
    · obtain rfl : x = P := by omega
      have k0 := g0.cell (j := 0) (v := .int .u64 x) rfl
      go_wp2
      go_ret
      exact ⟨_, rfl, by rw [hresL.out]; exact hL.ll, hB⟩

set_option maxRecDepth 10000 in
set_option maxHeartbeats 16000000 in
theorem rInp2_any (P V : Nat) (pub : Int) (ra : Option Addr) (R : List Rw) (rc : Nat) (w : World) (hp : 17 ≤ P) (h257 : P ≤ 257) (hrow : ∀ r ∈ R, RowOk P V r.val) (hV : V ≤ 65536) (hRl : R.length ≤ 16384) (hR : RowsP w ra rc R) (hIn : 2 < V) :
    Calls Try.prog 66 #[.agg #[.int .u64 P, .int .i64 pub, .int .i64 V, .slice ra R.length rc], .int .i64 2] w fun e w' => ∃ v, e = .returned v ∧ LL w' w.heap.size v (inpL P (R.map Rw.val) V 2) ∧ Below w.heap.size w w' := by
  have cW := fun fa fc front W h1 h2 h3 h4 => rTot_any P V pub ra R rc fa fc front 1 W hp h257 hrow hV hRl h1 h2 h3 h4 ⟨by omega, by omega⟩
  have hVI : (V : Int) ≤ 65536 := by omega
  have hP2 : (P : Int) ≤ 257 := by omega
  obtain ⟨F, hF⟩ : ∃ F, F = fun l => decide (0 < totN P (R.map Rw.val) V l 1) := ⟨_, rfl⟩
  replace hF := hide hF
  have hresL : Hid (inpL P (R.map Rw.val) V 2 = inp2 F P P) := hide (by rw [hF.out]; rfl)
  replace hrow := hide hrow
  replace hRl := hide hRl
  go_enter Try.func66, Try.ntmps66
  go_wp2_with fail
  refine name_world fun W hN => ?_
  have g0 : Blk W w.heap.size #[.int .u64 P, .int .i64 pub, .int .i64 V, .slice ra R.length rc] 34 := by rw [hN]; exact Blk.newAt rfl
  have hB : Below w.heap.size w W := by rw [hN]; exact (Below.refl _ _).alloc (Nat.le_refl _) _
  clear hN
  have hL0 : LW W w.heap.size w.heap.size (.slice none 0 0) [] := ⟨[], OwnG.nil _ _ _ _, (fun s hs => by cases hs), rfl⟩
  go_loopw [5, 6] (fun t5 t6 wr => ∃ x : Nat, x ≤ P ∧ t6 = .int .u64 x ∧ LW wr w.heap.size w.heap.size t5 (inp2 F P x) ∧ Below w.heap.size w wr ∧ Blk wr w.heap.size #[.int .u64 P, .int .i64 pub, .int .i64 V, .slice ra R.length rc] 34) (fun _ t6 _ => P - (intOf t6).toNat)
  case atStart => exact ⟨0, Nat.zero_le _, rfl, hL0, hB, g0⟩
  case round =>
    clear hL0 hB g0
    obtain ⟨x, hx, rfl, hL, hB, g0⟩ := hrel
    have k0 := g0.cell (j := 0) (v := .int .u64 P) rfl
    by_cases hlt : x < P
    · have hltI : (x : Int) < P := by omega
      have hx0 : (0 : Int) ≤ x := by omega
      have hxl := inp2_len F P x
      have hxp : x * P ≤ 256 * 257 := Nat.mul_le_mul (by omega) h257
      replace hxp := hide (Nat.le_trans hxl hxp)
      clear hxl
      have hL' := hL
      rw [show inp2 F P x = inp2 F P x ++ inpB F x 0 by rw [inpB, List.append_nil]] at hL'
      clear hL
      go_wp2_with fail
      go_loopw [5, 7] (fun t5 t7 wr => ∃ y : Nat, y ≤ P ∧ t7 = .int .u64 y ∧ LW wr w.heap.size w.heap.size t5 (inp2 F P x ++ inpB F x y) ∧ Below w.heap.size w wr ∧ Blk wr w.heap.size #[.int .u64 P, .int .i64 pub, .int .i64 V, .slice ra R.length rc] 34) (fun _ t7 _ => P - (intOf t7).toNat)
      case atStart => exact ⟨0, Nat.zero_le _, rfl, hL', hB, g0⟩
      case round =>
        clear hL' hB g0 k0
        obtain ⟨y, hy, rfl, hL, hB, g0⟩ := hrel
        by_cases hlty : y < P
        · have hltyI : (y : Int) < P := by omega
          have hy0 : (0 : Int) ≤ y := by omega
          have hyl := inpB_len F x y
          have k0 := g0.cell (j := 0) (v := .int .u64 P) rfl; have k1 := g0.cell (j := 1) (v := .int .i64 pub) rfl; have k2 := g0.cell (j := 2) (v := .int .i64 V) rfl; have k3 := g0.cell (j := 3) (v := .slice ra R.length rc) rfl
          go_wp2_with fail
          refine name_calls fun W hN => ?_
          have hbW : Below wr.heap.size wr W := by rw [hN]; exact (Below.refl _ _).alloc (Nat.le_refl _) _
          have gx : Blk W wr.heap.size #[.int .u64 x, .int .u64 y] 22 := by rw [hN]; exact Blk.newAt rfl
          clear hN
          have hwz := hB.size
          have htl := g0.lt
          have hfb : ∀ u ∈ [(x : Int), (y : Int)], 0 ≤ u ∧ u < (P : Int) := fun u hu => by simp only [List.mem_cons, List.not_mem_nil, or_false] at hu; omega
          refine (cW (some ⟨wr.heap.size, 0, none⟩) 2 [(x : Int), (y : Int)] W ((hR.mono hB).mono hbW) (UsB.sl (s := ⟨wr.heap.size, [(x : Int), (y : Int)]⟩) gx) hfb (by show 1 + 2 ≤ V; omega)).mono ?_
          rintro en w4 ⟨rfl, hb4⟩
          have hstep : (0 < totN P (R.map Rw.val) V [(x : Int), (y : Int)] 1 → (inp2 F P x ++ inpB F x (y + 1)) = (inp2 F P x ++ inpB F x y) ++ [[(x : Int), (y : Int)]]) ∧ (¬ 0 < totN P (R.map Rw.val) V [(x : Int), (y : Int)] 1 → (inp2 F P x ++ inpB F x (y + 1)) = (inp2 F P x ++ inpB F x y)) := by
            rw [inpB, ← List.append_assoc, hF.out]
            constructor
            · intro h; rw [if_pos (decide_eq_true h)]
            · intro h; rw [if_neg (fun h2 => h (of_decide_eq_true h2)), List.append_nil]
          generalize totN P (R.map Rw.val) V [(x : Int), (y : Int)] 1 = z at *
          have hb44 := below2 hbW hb4
          have hL4 := hL.mono hb44
          have g4 := g0.mono hb44
          have hB4 : Below w.heap.size w w4 := below2 hB hb44
          have hs4 := hB4.size
          have htl4 := g4.lt
          clear cW hbW gx hb4 hb44 hL g0 hB hfb k0 k1 k2 k3
          by_cases hz : 0 < z
          · have hX := hide (hstep.1 hz)
            obtain ⟨Xs, ow, hok, hXs⟩ := hL4
            have hlen : Hid (Xs.length ≤ 70000) := hide (by
              have h1 := congrArg List.length hXs
              rw [List.length_map] at h1
              rw [List.length_append] at h1; have := hxp.out; omega)
            clear hstep
            go_wp2_with (at_builtin; refine wpList_appG _ usL Xs [⟨w4.heap.size, [(x : Int), (y : Int)]⟩] rfl _ _ 93 rfl w.heap.size 54 (.slice none 0 0) 24 Try.underlying93 Try.infoUs rfl (by decide) _ 1 1 (some ⟨_, 0, none⟩) rfl rfl rfl ((ow.alloc _).alloc _) (SlG.one (Blk.newAt (by simp)) rfl) (by have := hlen.out; simp; omega) (by simp; omega) ?_; intro v' w' own' hg'; refine Hold.mk ?_)
            refine Hold.go ?_
            have hbA : Below w4.heap.size w4 ((w4.alloc (.cells #[.int .u64 x, .int .u64 y] 22)).alloc (.cells #[.slice (some ⟨w4.heap.size, 0, none⟩) 2 2] 54)) := ((Below.refl _ _).alloc (Nat.le_refl _) _).alloc (by simp) _
            obtain ⟨hL5, k5⟩ := LW.push (s := ⟨w4.heap.size, [(x : Int), (y : Int)]⟩) ((ow.alloc _).alloc _) (fun s hs => ⟨(hok s hs).1.mono hbA, (hok s hs).2⟩) hXs ⟨(Blk.new w4 #[.int .u64 x, .int .u64 y] 22).alloc _, by show w4.heap.size ≠ w.heap.size; omega⟩ (by simp; omega) hg' own'
            have g5 := k5.typ _ _ _ (g4.mono hbA) (by unfold XLs; decide)
            have hB5 : Below w.heap.size w w' := (below2 hB4 hbA).trans k5.below
            replace hL5 : LW w' w.heap.size w.heap.size v' ((inp2 F P x ++ inpB F x (y + 1))) := by rw [hX.out]; exact hL5
            clear ow hok hXs hbA hg' own' k5 g4 hB4 hX
            go_wp2
            go_roundw
            case rel => exact ⟨y + 1, by omega, by go_num, hL5, hB5, g5⟩
            case measure => simp [intOf]; omega
          · have hX := hide (hstep.2 hz)
            rw [← hX.out] at hL4
            clear hstep
            go_wp2
            go_roundw
            case rel => exact ⟨y + 1, by omega, by go_num, hL4, hB4, g4⟩
            case measure => simp [intOf]; omega
        · obtain rfl : y = P := by omega
          have k0 := g0.cell (j := 0) (v := .int .u64 y) rfl
          replace hL : LW wr w.heap.size w.heap.size _ (inp2 F y (x + 1)) := hL
          go_wp2
          go_roundw
          case rel => exact ⟨x + 1, by omega, by go_num, hL, hB, g0⟩
          case measure => simp [intOf]; omega
    · obtain rfl : x = P := by omega
      go_wp2
      go_ret
      exact ⟨_, rfl, by rw [hresL.out]; exact hL.ll, hB⟩
end Go.Proofs.Ytlgjnidphldiiaa
